/- SX: a call met by a contract that knows no more than what its arguments reach. -/
import Derived.Test.YtbkegflipglioaaGreatSX17
set_option maxRecDepth 20000
namespace Go.SX
open Go.RowKit
/-! Names of a great memory, by their places in a list. -/
def atN : List Nat → Nat → Nat → (Nat → Prop) → Prop
  | [], _, _, _ => False
  | y :: r, x, j, K => match Nat.beq x y with
    | true => K j
    | false => atN r x (Nat.succ j) K
theorem atN_ok : ∀ {l : List Nat} {x j : Nat} {K : Nat → Prop}, atN l x j K → ∃ i, i < l.length ∧ nthN l i = x ∧ K (j + i)
  | [], _, _, _, h => h.elim
  | y :: r, x, j, K, h => by
    unfold atN at h
    split at h
    · rename_i hb
      exact ⟨0, by simp, (Nat.eq_of_beq_eq_true hb).symm, h⟩
    · obtain ⟨i, h1, h2, h3⟩ := atN_ok h
      exact ⟨i + 1, by simpa using h1, h2, by rw [show j + (i + 1) = Nat.succ j + i by omega]; exact h3⟩
/-! What has no names. -/
mutual
def flatS : S → Bool
  | .ptr _ _ => false
  | .sli _ _ _ _ _ => false
  | .mp _ => false
  | .fn _ cs => flatL cs
  | .bm _ cs => flatL cs
  | .ifc _ x => flatS x
  | .agg cs => flatL cs
  | .tup cs => flatL cs
  | _ => true
def flatL : List S → Bool
  | [] => true
  | x :: r => (match flatS x with
    | true => flatL r
    | false => false)
end
mutual
theorem flatS_ok : ∀ (s : S), flatS s = true → ∀ m ν m' ν' v, s.ok m ν v → s.ok m' ν' v
  | .ptr _ _, h => by cases h
  | .sli _ _ _ _ _, h => by cases h
  | .mp _, h => by cases h
  | .fn f cs, h => fun m ν m' ν' v hv => by
    unfold flatS at h
    simp only [S.ok] at hv ⊢
    obtain ⟨vs, g1, g2⟩ := hv
    exact ⟨vs, g1, flatL_ok cs h _ _ _ _ _ g2⟩
  | .bm f cs, h => fun m ν m' ν' v hv => by
    unfold flatS at h
    simp only [S.ok] at hv ⊢
    obtain ⟨vs, g1, g2⟩ := hv
    exact ⟨vs, g1, flatL_ok cs h _ _ _ _ _ g2⟩
  | .ifc t x, h => fun m ν m' ν' v hv => by
    unfold flatS at h
    simp only [S.ok] at hv ⊢
    obtain ⟨vs, g1, g2⟩ := hv
    exact ⟨vs, g1, flatS_ok x h _ _ _ _ _ g2⟩
  | .agg cs, h => fun m ν m' ν' v hv => by
    unfold flatS at h
    simp only [S.ok] at hv ⊢
    obtain ⟨vs, g1, g2⟩ := hv
    exact ⟨vs, g1, flatL_ok cs h _ _ _ _ _ g2⟩
  | .tup cs, h => fun m ν m' ν' v hv => by
    unfold flatS at h
    simp only [S.ok] at hv ⊢
    obtain ⟨vs, g1, g2⟩ := hv
    exact ⟨vs, g1, flatL_ok cs h _ _ _ _ _ g2⟩
  | .il _ _, _ => fun m ν m' ν' v hv => by simpa only [S.ok] using hv
  | .iv _ _, _ => fun m ν m' ν' v hv => by simpa only [S.ok] using hv
  | .bl _, _ => fun m ν m' ν' v hv => by simpa only [S.ok] using hv
  | .bv _, _ => fun m ν m' ν' v hv => by simpa only [S.ok] using hv
  | .tl _, _ => fun m ν m' ν' v hv => by simpa only [S.ok] using hv
  | .tv _, _ => fun m ν m' ν' v hv => by simpa only [S.ok] using hv
  | .rp _ _, _ => fun m ν m' ν' v hv => by simpa only [S.ok] using hv
  | .nil, _ => fun m ν m' ν' v hv => by simpa only [S.ok] using hv
  | .raw _, _ => fun m ν m' ν' v hv => by simpa only [S.ok] using hv
  | .un, _ => fun m ν m' ν' v hv => by simpa only [S.ok] using hv
  | .junk, _ => fun m ν m' ν' v hv => by simp only [S.ok]
theorem flatL_ok : ∀ (l : List S), flatL l = true → flats l
  | [], _ => fun m ν m' ν' vs hv => by simpa only [S.oks] using hv
  | x :: r, h => fun m ν m' ν' vs hv => by
    unfold flatL at h
    split at h
    case h_2 => cases h
    rename_i hx
    simp only [S.oks] at hv ⊢
    obtain ⟨v, q, g1, g2, g3⟩ := hv
    exact ⟨v, q, g1, flatS_ok x hx _ _ _ _ _ g2, flatL_ok r h _ _ _ _ _ g3⟩
end
/-! From great to small. -/
section
variable (ids : List Nat)
mutual
def smS : S → (S → Prop) → Prop
  | .ptr i o, K => atN ids i 0 fun j => K (.ptr j o)
  | .sli i o n c z, K => atN ids i 0 fun j => K (.sli j o n c z)
  | .mp i, K => atN ids i 0 fun j => K (.mp j)
  | .fn f cs, K => smL cs fun cs => K (.fn f cs)
  | .bm f cs, K => smL cs fun cs => K (.bm f cs)
  | .ifc t x, K => smS x fun x => K (.ifc t x)
  | .agg cs, K => smL cs fun cs => K (.agg cs)
  | .tup cs, K => smL cs fun cs => K (.tup cs)
  | .il k n, K => K (.il k n)
  | .iv k n, K => K (.iv k n)
  | .bl x, K => K (.bl x)
  | .bv x, K => K (.bv x)
  | .tl x, K => K (.tl x)
  | .tv x, K => K (.tv x)
  | .rp a o, K => K (.rp a o)
  | .nil, K => K .nil
  | .raw v, K => K (.raw v)
  | .un, K => K .un
  | .junk, K => K .junk
def smL : List S → (List S → Prop) → Prop
  | [], K => K []
  | x :: r, K => smS x fun x => smL r fun r => K (x :: r)
end
/-- Where nothing has a name, it stays as it stands. -/
def smF (cs : List S) (K : List S → Prop) : Prop := match flatL cs with
  | true => K cs
  | false => smL ids cs K
def smO (o : Ob) (K : Ob → Prop) : Prop := match o with
  | .cells T cs => smF ids cs fun cs => K (.cells T cs)
  | .row T sz (.l n) cs => smF ids cs fun cs => K (.row T sz (.l n) cs)
  | .row T sz (.v n) cs => flats cs ∧ K (.row T sz (.v n) cs)
  | .win cs => smF ids cs fun cs => K (.win cs)
  | .mapo ks vs => smF ids ks fun ks => smF ids vs fun vs => K (.mapo ks vs)
  | .orc _ => K .dead
  | .dead => K .dead
def smH (h : List Ob) : List Nat → (List Ob → Prop) → Prop
  | [], K => K []
  | i :: r, K => smO ids (getO h i) fun o => smH h r fun r => K (o :: r)
end
section
variable {ids : List Nat} {m : Nat} {ν : Nat → Env}
mutual
theorem smS_ok : ∀ (s : S) {K : S → Prop}, smS ids s K → ∃ s', K s' ∧ ∀ m ν v, s.ok m ν v → s'.ok ids.length (fun j => ν (nthN ids j)) v
  | .ptr i o, K, h => by
    unfold smS at h
    obtain ⟨j, h1, h2, h3⟩ := atN_ok h
    rw [Nat.zero_add] at h3
    exact ⟨_, h3, fun m ν v hv => by simp only [S.ok] at hv ⊢; rw [h2]; exact ⟨h1, hv.2⟩⟩
  | .sli i o n c z, K, h => by
    unfold smS at h
    obtain ⟨j, h1, h2, h3⟩ := atN_ok h
    rw [Nat.zero_add] at h3
    exact ⟨_, h3, fun m ν v hv => by simp only [S.ok] at hv ⊢; rw [h2]; exact ⟨h1, hv.2⟩⟩
  | .mp i, K, h => by
    unfold smS at h
    obtain ⟨j, h1, h2, h3⟩ := atN_ok h
    rw [Nat.zero_add] at h3
    exact ⟨_, h3, fun m ν v hv => by simp only [S.ok] at hv ⊢; rw [h2]; exact ⟨h1, hv.2⟩⟩
  | .fn f cs, K, h => by
    unfold smS at h
    obtain ⟨cs', h1, h2⟩ := smL_ok cs h
    exact ⟨_, h1, fun m ν v hv => by simp only [S.ok] at hv ⊢; obtain ⟨vs, g1, g2⟩ := hv; exact ⟨vs, g1, h2 _ _ _ g2⟩⟩
  | .bm f cs, K, h => by
    unfold smS at h
    obtain ⟨cs', h1, h2⟩ := smL_ok cs h
    exact ⟨_, h1, fun m ν v hv => by simp only [S.ok] at hv ⊢; obtain ⟨vs, g1, g2⟩ := hv; exact ⟨vs, g1, h2 _ _ _ g2⟩⟩
  | .ifc t x, K, h => by
    unfold smS at h
    obtain ⟨x', h1, h2⟩ := smS_ok x h
    exact ⟨_, h1, fun m ν v hv => by simp only [S.ok] at hv ⊢; obtain ⟨u, g1, g2⟩ := hv; exact ⟨u, g1, h2 _ _ _ g2⟩⟩
  | .agg cs, K, h => by
    unfold smS at h
    obtain ⟨cs', h1, h2⟩ := smL_ok cs h
    exact ⟨_, h1, fun m ν v hv => by simp only [S.ok] at hv ⊢; obtain ⟨vs, g1, g2⟩ := hv; exact ⟨vs, g1, h2 _ _ _ g2⟩⟩
  | .tup cs, K, h => by
    unfold smS at h
    obtain ⟨cs', h1, h2⟩ := smL_ok cs h
    exact ⟨_, h1, fun m ν v hv => by simp only [S.ok] at hv ⊢; obtain ⟨vs, g1, g2⟩ := hv; exact ⟨vs, g1, h2 _ _ _ g2⟩⟩
  | .il _ _, K, h => by unfold smS at h; exact ⟨_, h, fun m ν v hv => by simpa only [S.ok] using hv⟩
  | .iv _ _, K, h => by unfold smS at h; exact ⟨_, h, fun m ν v hv => by simpa only [S.ok] using hv⟩
  | .bl _, K, h => by unfold smS at h; exact ⟨_, h, fun m ν v hv => by simpa only [S.ok] using hv⟩
  | .bv _, K, h => by unfold smS at h; exact ⟨_, h, fun m ν v hv => by simpa only [S.ok] using hv⟩
  | .tl _, K, h => by unfold smS at h; exact ⟨_, h, fun m ν v hv => by simpa only [S.ok] using hv⟩
  | .tv _, K, h => by unfold smS at h; exact ⟨_, h, fun m ν v hv => by simpa only [S.ok] using hv⟩
  | .rp _ _, K, h => by unfold smS at h; exact ⟨_, h, fun m ν v hv => by simpa only [S.ok] using hv⟩
  | .nil, K, h => by unfold smS at h; exact ⟨_, h, fun m ν v hv => by simpa only [S.ok] using hv⟩
  | .raw _, K, h => by unfold smS at h; exact ⟨_, h, fun m ν v hv => by simpa only [S.ok] using hv⟩
  | .un, K, h => by unfold smS at h; exact ⟨_, h, fun m ν v hv => by simpa only [S.ok] using hv⟩
  | .junk, K, h => by unfold smS at h; exact ⟨_, h, fun m ν v hv => by simp only [S.ok]⟩
theorem smL_ok : ∀ (l : List S) {K : List S → Prop}, smL ids l K → ∃ l', K l' ∧ ∀ m ν vs, S.oks m ν l vs → S.oks ids.length (fun j => ν (nthN ids j)) l' vs
  | [], K, h => by unfold smL at h; exact ⟨_, h, fun m ν v hv => by simpa only [S.oks] using hv⟩
  | x :: r, K, h => by
    unfold smL at h
    obtain ⟨x', h1, h2⟩ := smS_ok x h
    obtain ⟨r', h3, h4⟩ := smL_ok r h1
    exact ⟨_, h3, fun m ν vs hv => by simp only [S.oks] at hv ⊢; obtain ⟨v, q, g1, g2, g3⟩ := hv; exact ⟨v, q, g1, h2 _ _ _ g2, h4 _ _ _ g3⟩⟩
end
theorem smF_ok {l : List S} {K : List S → Prop} (h : smF ids l K) : ∃ l', K l' ∧ ∀ m ν vs, S.oks m ν l vs → S.oks ids.length (fun j => ν (nthN ids j)) l' vs := by
  unfold smF at h
  split at h
  · rename_i hf; exact ⟨l, h, fun m ν vs hv => flatL_ok l hf _ _ _ _ _ hv⟩
  · exact smL_ok l h
/-- What is kept of an object. -/
structure SmO (ids : List Nat) (o o' : Ob) : Prop where
  own : o'.own = true → o.own = true
  own' : o.own = true → o'.own = true
  win : (∃ cs, o' = .win cs) → ∃ cs, o = .win cs
  holds : ∀ m ν e w, o.holds m ν e w → o'.holds ids.length (fun j => ν (nthN ids j)) e w
theorem smO_ok {o : Ob} {K : Ob → Prop} (h : smO ids o K) : ∃ o', K o' ∧ SmO ids o o' := by
  unfold smO at h
  split at h
  · obtain ⟨l, h1, h2⟩ := smF_ok h
    exact ⟨_, h1, fun _ => rfl, fun _ => rfl, (fun h => by obtain ⟨cs, h⟩ := h; cases h), fun m ν e w hh => by obtain ⟨h0, vs, g1, g2⟩ := hh; exact ⟨h0, vs, h2 _ _ _ g1, g2⟩⟩
  · obtain ⟨l, h1, h2⟩ := smF_ok h
    exact ⟨_, h1, fun _ => rfl, fun _ => rfl, (fun h => by obtain ⟨cs, h⟩ := h; cases h), fun m ν e w hh => by obtain ⟨h0, vs, cur, g1, g2⟩ := hh; exact ⟨h0, vs, cur, h2 _ _ _ g1, g2⟩⟩
  · obtain ⟨hf, h1⟩ := h
    exact ⟨_, h1, fun _ => rfl, fun _ => rfl, (fun h => by obtain ⟨cs, h⟩ := h; cases h), fun m ν e w hh => by obtain ⟨h0, vs, cur, g1, g2⟩ := hh; exact ⟨h0, vs, cur, hf _ _ _ _ _ g1, g2⟩⟩
  · obtain ⟨l, h1, h2⟩ := smF_ok h
    exact ⟨_, h1, (fun h => by cases h), (fun h => by cases h), fun _ => ⟨_, rfl⟩, fun m ν e w hh => by obtain ⟨vs, g1, g2⟩ := hh; exact ⟨vs, h2 _ _ _ g1, g2⟩⟩
  · obtain ⟨l, h1, h2⟩ := smF_ok h
    obtain ⟨l3, h3, h4⟩ := smF_ok h1
    exact ⟨_, h3, fun _ => rfl, fun _ => rfl, (fun h => by obtain ⟨cs, h⟩ := h; cases h), fun m ν e w hh => by obtain ⟨h0, a, b, g1, g2, g3⟩ := hh; exact ⟨h0, a, b, h2 _ _ _ g1, h4 _ _ _ g2, g3⟩⟩
  · exact ⟨_, h, (fun h => by cases h), (fun h => by cases h), (fun h => by obtain ⟨cs, h⟩ := h; cases h), fun _ _ _ _ _ => trivial⟩
  · exact ⟨_, h, (fun h => by cases h), (fun h => by cases h), (fun h => by obtain ⟨cs, h⟩ := h; cases h), fun _ _ _ _ _ => trivial⟩
theorem smH_ok {h : List Ob} : ∀ (l : List Nat) {K : List Ob → Prop}, smH ids h l K → ∃ hs, K hs ∧ hs.length = l.length ∧ ∀ j o', hs[j]? = some o' → SmO ids (getO h (nthN l j)) o'
  | [], K, hk => ⟨[], hk, rfl, fun j o' hj => by simp at hj⟩
  | i :: r, K, hk => by
    unfold smH at hk
    obtain ⟨o, h1, h2⟩ := smO_ok hk
    obtain ⟨hs, h3, h4, h5⟩ := smH_ok r h1
    refine ⟨_, h3, by simp [h4], fun j o' hj => ?_⟩
    cases j with
    | zero => simp only [List.getElem?_cons_zero, Option.some.injEq] at hj; subst hj; exact h2
    | succ j => simp only [List.getElem?_cons_succ] at hj; exact h5 j o' hj
end
/-! From small to great: the first k names are those of ids, the others are behind n. -/
def rhoN (ids : List Nat) (n k j : Nat) : Nat := match Nat.ble (Nat.succ j) k with
  | true => nthN ids j
  | false => n + (j - k)
section
variable (ids : List Nat) (n k : Nat)
mutual
def bgS : S → (S → Prop) → Prop
  | .ptr i o, K => forceN (rhoN ids n k i) fun j => K (.ptr j o)
  | .sli i o l c z, K => forceN (rhoN ids n k i) fun j => K (.sli j o l c z)
  | .mp i, K => forceN (rhoN ids n k i) fun j => K (.mp j)
  | .fn f cs, K => bgL cs fun cs => K (.fn f cs)
  | .bm f cs, K => bgL cs fun cs => K (.bm f cs)
  | .ifc t x, K => bgS x fun x => K (.ifc t x)
  | .agg cs, K => bgL cs fun cs => K (.agg cs)
  | .tup cs, K => bgL cs fun cs => K (.tup cs)
  | .il k n, K => K (.il k n)
  | .iv k n, K => K (.iv k n)
  | .bl x, K => K (.bl x)
  | .bv x, K => K (.bv x)
  | .tl x, K => K (.tl x)
  | .tv x, K => K (.tv x)
  | .rp a o, K => K (.rp a o)
  | .nil, K => K .nil
  | .raw v, K => K (.raw v)
  | .un, K => K .un
  | .junk, K => K .junk
def bgL : List S → (List S → Prop) → Prop
  | [], K => K []
  | x :: r, K => bgS x fun x => bgL r fun r => K (x :: r)
end
def bgF (cs : List S) (K : List S → Prop) : Prop := match flatL cs with
  | true => K cs
  | false => bgL ids n k cs K
/-- None: what was there stays, if it was a window; else it is dead. -/
def bgO (o : Ob) (K : Option Ob → Prop) : Prop := match o with
  | .cells T cs => bgF ids n k cs fun cs => K (some (.cells T cs))
  | .row T sz (.l l) cs => bgF ids n k cs fun cs => K (some (.row T sz (.l l) cs))
  | .row T sz (.v l) cs => flats cs ∧ K (some (.row T sz (.v l) cs))
  | .win _ => K none
  | .mapo ks vs => bgF ids n k ks fun ks => bgF ids n k vs fun vs => K (some (.mapo ks vs))
  | .orc _ => K (some .dead)
  | .dead => K (some .dead)
def keepO (o : Ob) : Ob := match o with
  | .win cs => .win cs
  | _ => .dead
def bgH : List Nat → List Ob → List Ob → (List Ob → Prop) → Prop
  | _, [], acc, K => K acc
  | i :: r, o :: q, acc, K => bgO ids n k o fun x => (match x with
    | some o => setOK acc i o fun acc => bgH r q acc K
    | none => setOK acc i (keepO (getO acc i)) fun acc => bgH r q acc K)
  | [], o :: q, acc, K => bgO ids n k o fun x => (match x with
    | some o => appK acc o fun acc => bgH [] q acc K
    | none => appK acc .dead fun acc => bgH [] q acc K)
end
section
variable {ids : List Nat} {n k : Nat}
/-- What renaming says. -/
def RenS (ρ : Nat → Nat) (s s' : S) : Prop := ∀ m M ν ν' v, (∀ j, j < m → ρ j < M ∧ ν' (ρ j) = ν j) → s.ok m ν v → s'.ok M ν' v
def RenL (ρ : Nat → Nat) (s s' : List S) : Prop := ∀ m M ν ν' vs, (∀ j, j < m → ρ j < M ∧ ν' (ρ j) = ν j) → S.oks m ν s vs → S.oks M ν' s' vs
mutual
theorem bgS_ok : ∀ (s : S) {K : S → Prop}, bgS ids n k s K → ∃ s', K s' ∧ RenS (rhoN ids n k) s s'
  | .ptr i o, K, h => by
    unfold bgS at h
    rw [forceN_eq] at h
    exact ⟨_, h, fun m M ν ν' v he hv => by simp only [S.ok] at hv ⊢; rw [(he i hv.1).2]; exact ⟨(he i hv.1).1, hv.2⟩⟩
  | .sli i o l c z, K, h => by
    unfold bgS at h
    rw [forceN_eq] at h
    exact ⟨_, h, fun m M ν ν' v he hv => by simp only [S.ok] at hv ⊢; rw [(he i hv.1).2]; exact ⟨(he i hv.1).1, hv.2⟩⟩
  | .mp i, K, h => by
    unfold bgS at h
    rw [forceN_eq] at h
    exact ⟨_, h, fun m M ν ν' v he hv => by simp only [S.ok] at hv ⊢; rw [(he i hv.1).2]; exact ⟨(he i hv.1).1, hv.2⟩⟩
  | .fn f cs, K, h => by
    unfold bgS at h
    obtain ⟨cs', h1, h2⟩ := bgL_ok cs h
    exact ⟨_, h1, fun m M ν ν' v he hv => by simp only [S.ok] at hv ⊢; obtain ⟨vs, g1, g2⟩ := hv; exact ⟨vs, g1, h2 _ _ _ _ _ he g2⟩⟩
  | .bm f cs, K, h => by
    unfold bgS at h
    obtain ⟨cs', h1, h2⟩ := bgL_ok cs h
    exact ⟨_, h1, fun m M ν ν' v he hv => by simp only [S.ok] at hv ⊢; obtain ⟨vs, g1, g2⟩ := hv; exact ⟨vs, g1, h2 _ _ _ _ _ he g2⟩⟩
  | .ifc t x, K, h => by
    unfold bgS at h
    obtain ⟨x', h1, h2⟩ := bgS_ok x h
    exact ⟨_, h1, fun m M ν ν' v he hv => by simp only [S.ok] at hv ⊢; obtain ⟨u, g1, g2⟩ := hv; exact ⟨u, g1, h2 _ _ _ _ _ he g2⟩⟩
  | .agg cs, K, h => by
    unfold bgS at h
    obtain ⟨cs', h1, h2⟩ := bgL_ok cs h
    exact ⟨_, h1, fun m M ν ν' v he hv => by simp only [S.ok] at hv ⊢; obtain ⟨vs, g1, g2⟩ := hv; exact ⟨vs, g1, h2 _ _ _ _ _ he g2⟩⟩
  | .tup cs, K, h => by
    unfold bgS at h
    obtain ⟨cs', h1, h2⟩ := bgL_ok cs h
    exact ⟨_, h1, fun m M ν ν' v he hv => by simp only [S.ok] at hv ⊢; obtain ⟨vs, g1, g2⟩ := hv; exact ⟨vs, g1, h2 _ _ _ _ _ he g2⟩⟩
  | .il _ _, K, h => by unfold bgS at h; exact ⟨_, h, fun m M ν ν' v _ hv => by simpa only [S.ok] using hv⟩
  | .iv _ _, K, h => by unfold bgS at h; exact ⟨_, h, fun m M ν ν' v _ hv => by simpa only [S.ok] using hv⟩
  | .bl _, K, h => by unfold bgS at h; exact ⟨_, h, fun m M ν ν' v _ hv => by simpa only [S.ok] using hv⟩
  | .bv _, K, h => by unfold bgS at h; exact ⟨_, h, fun m M ν ν' v _ hv => by simpa only [S.ok] using hv⟩
  | .tl _, K, h => by unfold bgS at h; exact ⟨_, h, fun m M ν ν' v _ hv => by simpa only [S.ok] using hv⟩
  | .tv _, K, h => by unfold bgS at h; exact ⟨_, h, fun m M ν ν' v _ hv => by simpa only [S.ok] using hv⟩
  | .rp _ _, K, h => by unfold bgS at h; exact ⟨_, h, fun m M ν ν' v _ hv => by simpa only [S.ok] using hv⟩
  | .nil, K, h => by unfold bgS at h; exact ⟨_, h, fun m M ν ν' v _ hv => by simpa only [S.ok] using hv⟩
  | .raw _, K, h => by unfold bgS at h; exact ⟨_, h, fun m M ν ν' v _ hv => by simpa only [S.ok] using hv⟩
  | .un, K, h => by unfold bgS at h; exact ⟨_, h, fun m M ν ν' v _ hv => by simpa only [S.ok] using hv⟩
  | .junk, K, h => by unfold bgS at h; exact ⟨_, h, fun m M ν ν' v _ hv => by simp only [S.ok]⟩
theorem bgL_ok : ∀ (l : List S) {K : List S → Prop}, bgL ids n k l K → ∃ l', K l' ∧ RenL (rhoN ids n k) l l'
  | [], K, h => by unfold bgL at h; exact ⟨_, h, fun m M ν ν' v _ hv => by simpa only [S.oks] using hv⟩
  | x :: r, K, h => by
    unfold bgL at h
    obtain ⟨x', h1, h2⟩ := bgS_ok x h
    obtain ⟨r', h3, h4⟩ := bgL_ok r h1
    exact ⟨_, h3, fun m M ν ν' vs he hv => by simp only [S.oks] at hv ⊢; obtain ⟨v, q, g1, g2, g3⟩ := hv; exact ⟨v, q, g1, h2 _ _ _ _ _ he g2, h4 _ _ _ _ _ he g3⟩⟩
end
theorem bgF_ok {l : List S} {K : List S → Prop} (h : bgF ids n k l K) : ∃ l', K l' ∧ RenL (rhoN ids n k) l l' := by
  unfold bgF at h
  split at h
  · rename_i hf; exact ⟨l, h, fun m M ν ν' vs _ hv => flatL_ok l hf _ _ _ _ _ hv⟩
  · exact bgL_ok l h
structure BgO (ρ : Nat → Nat) (o o' : Ob) : Prop where
  own : o'.own = true → o.own = true
  win : ∀ cs, o' ≠ .win cs
  holds : ∀ m M ν ν' e w, (∀ j, j < m → ρ j < M ∧ ν' (ρ j) = ν j) → o.holds m ν e w → o'.holds M ν' e w
theorem bgO_ok {o : Ob} {K : Option Ob → Prop} (h : bgO ids n k o K) : (K none ∧ o.own = false) ∨ ∃ o', K (some o') ∧ BgO (rhoN ids n k) o o' := by
  unfold bgO at h
  split at h
  · obtain ⟨l, h1, h2⟩ := bgF_ok h
    exact Or.inr ⟨_, h1, fun _ => rfl, (fun cs h => by cases h), fun m M ν ν' e w he hh => by obtain ⟨h0, vs, g1, g2⟩ := hh; exact ⟨h0, vs, h2 _ _ _ _ _ he g1, g2⟩⟩
  · obtain ⟨l, h1, h2⟩ := bgF_ok h
    exact Or.inr ⟨_, h1, fun _ => rfl, (fun cs h => by cases h), fun m M ν ν' e w he hh => by obtain ⟨h0, vs, cur, g1, g2⟩ := hh; exact ⟨h0, vs, cur, h2 _ _ _ _ _ he g1, g2⟩⟩
  · obtain ⟨hf, h1⟩ := h
    exact Or.inr ⟨_, h1, fun _ => rfl, (fun cs h => by cases h), fun m M ν ν' e w he hh => by obtain ⟨h0, vs, cur, g1, g2⟩ := hh; exact ⟨h0, vs, cur, hf _ _ _ _ _ g1, g2⟩⟩
  · exact Or.inl ⟨h, rfl⟩
  · obtain ⟨l, h1, h2⟩ := bgF_ok h
    obtain ⟨l3, h3, h4⟩ := bgF_ok h1
    exact Or.inr ⟨_, h3, fun _ => rfl, (fun cs h => by cases h), fun m M ν ν' e w he hh => by obtain ⟨h0, a, b, g1, g2, g3⟩ := hh; exact ⟨h0, a, b, h2 _ _ _ _ _ he g1, h4 _ _ _ _ _ he g2, g3⟩⟩
  · exact Or.inr ⟨_, h, (fun h => by cases h), (fun cs h => by cases h), fun _ _ _ _ _ _ _ _ => trivial⟩
  · exact Or.inr ⟨_, h, (fun h => by cases h), (fun cs h => by cases h), fun _ _ _ _ _ _ _ _ => trivial⟩
def tgtN (l : List Nat) (n j : Nat) : Nat := if j < l.length then nthN l j else n + (j - l.length)
theorem tgtN_succ (x : Nat) (l : List Nat) (n j : Nat) : tgtN (x :: l) n (j + 1) = tgtN l n j := by
  unfold tgtN
  simp only [List.length_cons, Nat.add_lt_add_iff_right, nthN, Nat.reduceSubDiff]
theorem tgtN_nil (n j : Nat) : tgtN [] n (j + 1) = tgtN [] (n + 1) j := by
  unfold tgtN
  simp; omega
theorem bgH_ok : ∀ (l : List Nat) (q acc : List Ob) {K : List Ob → Prop}, bgH ids n k l q acc K → ∃ h2, K h2 ∧ h2.length = acc.length + (q.length - l.length) ∧
    ∀ i o, h2[i]? = some o → (∃ j o0, q[j]? = some o0 ∧ tgtN l acc.length j = i ∧ BgO (rhoN ids n k) o0 o) ∨ (acc[i]? = some o ∧ (o.own = true → ∀ j, j < q.length → tgtN l acc.length j ≠ i)) ∨ o = .dead := by
  intro l q
  induction q generalizing l with
  | nil =>
    intro acc K h
    have h : K acc := by
      cases l <;> simpa only [bgH] using h
    exact ⟨acc, h, by simp, fun i o hi => Or.inr (Or.inl ⟨hi, fun _ j hj => by simp at hj⟩)⟩
  | cons o q ih =>
    intro acc K h
    cases l with
    | cons x r =>
      unfold bgH at h
      rcases bgO_ok h with ⟨h1, hno⟩ | ⟨o', h1, h2⟩
      · simp only [setOK_eq] at h1
        obtain ⟨h2, g1, g2, g3⟩ := ih r _ h1
        rw [setO_eq] at g2 g3
        rw [List.length_set] at g2 g3
        refine ⟨h2, g1, by simp only [g2, List.length_cons]; omega, fun i o1 hi => ?_⟩
        rcases g3 i o1 hi with ⟨j, o0, k1, k2, k3⟩ | ⟨k1, k2⟩ | k1
        · exact Or.inl ⟨j + 1, o0, by simpa using k1, by rw [tgtN_succ]; exact k2, k3⟩
        · by_cases hxi : x = i
          · subst hxi
            have hlt : x < acc.length := by
              have := (List.getElem?_eq_some_iff.1 k1).1
              simpa using this
            rw [List.getElem?_set_self hlt] at k1
            have k1 := Option.some.inj k1
            rcases getO_spec acc x with hx | hx
            · cases hg : getO acc x with
              | win cs =>
                rw [hg] at k1 hx
                simp only [keepO] at k1
                subst k1
                exact Or.inr (Or.inl ⟨hx, fun h => by cases h⟩)
              | _ => rw [hg] at k1; simp only [keepO] at k1; exact Or.inr (Or.inr k1.symm)
            · rw [hx] at k1; simp only [keepO] at k1; exact Or.inr (Or.inr k1.symm)
          · rw [List.getElem?_set_ne hxi] at k1
            refine Or.inr (Or.inl ⟨k1, fun ho j hj => ?_⟩)
            cases j with
            | zero => simpa [tgtN, nthN] using hxi
            | succ j => rw [tgtN_succ]; exact k2 ho j (by simpa using hj)
        · exact Or.inr (Or.inr k1)
      · simp only [setOK_eq] at h1
        obtain ⟨h3, g1, g2, g3⟩ := ih r _ h1
        rw [setO_eq] at g2 g3
        rw [List.length_set] at g2 g3
        refine ⟨h3, g1, by simp only [g2, List.length_cons]; omega, fun i o1 hi => ?_⟩
        rcases g3 i o1 hi with ⟨j, o0, k1, k2, k3⟩ | ⟨k1, k2⟩ | k1
        · exact Or.inl ⟨j + 1, o0, by simpa using k1, by rw [tgtN_succ]; exact k2, k3⟩
        · by_cases hxi : x = i
          · subst hxi
            have hlt : x < acc.length := by
              have := (List.getElem?_eq_some_iff.1 k1).1
              simpa using this
            rw [List.getElem?_set_self hlt] at k1
            have k1 := Option.some.inj k1
            subst k1
            exact Or.inl ⟨0, o, rfl, by simp [tgtN, nthN], h2⟩
          · rw [List.getElem?_set_ne hxi] at k1
            refine Or.inr (Or.inl ⟨k1, fun ho j hj => ?_⟩)
            cases j with
            | zero => simpa [tgtN, nthN] using hxi
            | succ j => rw [tgtN_succ]; exact k2 ho j (by simpa using hj)
        · exact Or.inr (Or.inr k1)
    | nil =>
      unfold bgH at h
      have key : ∀ o', BgO (rhoN ids n k) o o' ∨ o' = .dead → bgH ids n k [] q (acc ++ [o']) K → ∃ h2, K h2 ∧ h2.length = acc.length + ((o :: q).length - ([] : List Nat).length) ∧
          ∀ i o1, h2[i]? = some o1 → (∃ j o0, (o :: q)[j]? = some o0 ∧ tgtN [] acc.length j = i ∧ BgO (rhoN ids n k) o0 o1) ∨ (acc[i]? = some o1 ∧ (o1.own = true → ∀ j, j < (o :: q).length → tgtN [] acc.length j ≠ i)) ∨ o1 = .dead := by
        intro o' ho' h1
        obtain ⟨h3, g1, g2, g3⟩ := ih [] _ h1
        simp only [List.length_append, List.length_singleton] at g2 g3
        refine ⟨h3, g1, by simp only [g2, List.length_cons, List.length_nil]; omega, fun i o1 hi => ?_⟩
        rcases g3 i o1 hi with ⟨j, o0, k1, k2, k3⟩ | ⟨k1, k2⟩ | k1
        · exact Or.inl ⟨j + 1, o0, by simpa using k1, by rw [tgtN_nil]; exact k2, k3⟩
        · rcases Nat.lt_or_ge i acc.length with hl | hl
          · rw [List.getElem?_append_left hl] at k1
            refine Or.inr (Or.inl ⟨k1, fun _ j _ => ?_⟩)
            simp only [tgtN, List.length_nil, Nat.not_lt_zero, if_false]; omega
          · rw [List.getElem?_append_right hl] at k1
            have h0 : i - acc.length = 0 := by
              rcases Nat.eq_zero_or_pos (i - acc.length) with h0 | h0
              · exact h0
              · rw [List.getElem?_eq_none (by simp; omega)] at k1; cases k1
            rw [h0] at k1
            have k1 : o' = o1 := by simpa using k1
            subst k1
            rcases ho' with ho' | ho'
            · exact Or.inl ⟨0, o, rfl, by simp only [tgtN, List.length_nil, Nat.not_lt_zero, if_false]; omega, ho'⟩
            · exact Or.inr (Or.inr ho')
        · exact Or.inr (Or.inr k1)
      rcases bgO_ok h with ⟨h1, hno⟩ | ⟨o', h1, h2⟩
      · simp only [appK_eq] at h1
        exact key .dead (Or.inr rfl) h1
      · simp only [appK_eq] at h1
        exact key o' (Or.inl h2) h1
end
/-! What arguments reach. -/
def addI (i : Nat) (l : List Nat) (K : List Nat → Prop) : Prop := List.rec (motive := fun _ => (List Nat → Prop) → Prop) (fun K => forceN i fun i => K [i]) (fun y r ih K => match Nat.beq i y with
  | true => K (y :: r)
  | false => ih fun r => K (y :: r)) l K
mutual
def nmS : S → List Nat → (List Nat → Prop) → Prop
  | .ptr i _, l, K => addI i l K
  | .sli i _ _ _ _, l, K => addI i l K
  | .mp i, l, K => addI i l K
  | .fn _ cs, l, K => nmL cs l K
  | .bm _ cs, l, K => nmL cs l K
  | .ifc _ x, l, K => nmS x l K
  | .agg cs, l, K => nmL cs l K
  | .tup cs, l, K => nmL cs l K
  | _, l, K => K l
def nmL : List S → List Nat → (List Nat → Prop) → Prop
  | [], l, K => K l
  | x :: r, l, K => nmS x l fun l => nmL r l K
end
def nmO (o : Ob) (l : List Nat) (K : List Nat → Prop) : Prop := match o with
  | .cells _ cs => nmL cs l K
  | .row _ _ (.l _) cs => nmL cs l K
  | .win cs => nmL cs l K
  | .mapo ks vs => nmL ks l fun l => nmL vs l K
  | _ => K l
/-- q: those of l that were not yet looked into. -/
def nmH (h : List Ob) : Nat → Nat → List Nat → (List Nat → Prop) → Prop
  | 0, _, _, _ => False
  | f + 1, p, l, K => match Nat.ble l.length p with
    | true => K l
    | false => nmO (getO h (nthN l p)) l fun l => nmH h f (Nat.succ p) l K
def allLt : List Nat → Nat → Bool
  | [], _ => true
  | x :: r, n => (match Nat.ble (Nat.succ x) n with
    | true => allLt r n
    | false => false)
theorem allLt_ok : ∀ {l : List Nat} {n : Nat}, allLt l n = true → ∀ j, j < l.length → nthN l j < n
  | [], n, _, j, hj => by simp at hj
  | x :: r, n, h, j, hj => by
    unfold allLt at h
    split at h
    case h_2 => cases h
    rename_i hx
    cases j with
    | zero => exact Nat.le_of_ble_eq_true hx
    | succ j => exact allLt_ok h j (by simpa using hj)
def lenNK (h : List Nat) (K : Nat → Prop) : Prop := forceN h.length K
/-- A call, met by what is known of a small memory. -/
def frame (ct : List S → List Ob → (S → List Ob → Prop) → Prop) (args : List S) (h : List Ob) (K : S → List Ob → Prop) : Prop :=
  lenK h fun n => nmL args [] fun l => nmH h 400 0 l fun ids => match nodupN ids, allLt ids n with
    | true, true => lenNK ids fun k => smL ids args fun args' => smH ids h ids fun hs => ct args' hs fun s h' => bgS ids n k s fun s2 => bgH ids n k ids h' h fun h2 => K s2 h2
    | _, _ => False
theorem nmL_some : ∀ (h : List Ob) (f p : Nat) (l : List Nat) {K : List Nat → Prop}, nmH h f p l K → True := fun _ _ _ _ _ _ => trivial
theorem addI_ok {i : Nat} : ∀ {l : List Nat} {K : List Nat → Prop}, addI i l K → ∃ l', K l'
  | [], K, h => by
    have h : forceN i (fun i => K [i]) := h
    rw [forceN_eq] at h; exact ⟨_, h⟩
  | y :: r, K, h => by
    have h : (match Nat.beq i y with
      | true => K (y :: r)
      | false => addI i r fun r => K (y :: r)) := h
    split at h
    · exact ⟨_, h⟩
    · obtain ⟨l', h⟩ := addI_ok h; exact ⟨_, h⟩
mutual
theorem nmS_ok : ∀ (s : S) {l : List Nat} {K : List Nat → Prop}, nmS s l K → ∃ l', K l'
  | .ptr i _, l, K, h => by unfold nmS at h; exact addI_ok h
  | .sli i _ _ _ _, l, K, h => by unfold nmS at h; exact addI_ok h
  | .mp i, l, K, h => by unfold nmS at h; exact addI_ok h
  | .fn _ cs, l, K, h => by unfold nmS at h; exact nmL_ok cs h
  | .bm _ cs, l, K, h => by unfold nmS at h; exact nmL_ok cs h
  | .ifc _ x, l, K, h => by unfold nmS at h; exact nmS_ok x h
  | .agg cs, l, K, h => by unfold nmS at h; exact nmL_ok cs h
  | .tup cs, l, K, h => by unfold nmS at h; exact nmL_ok cs h
  | .il _ _, l, K, h => by unfold nmS at h; exact ⟨_, h⟩
  | .iv _ _, l, K, h => by unfold nmS at h; exact ⟨_, h⟩
  | .bl _, l, K, h => by unfold nmS at h; exact ⟨_, h⟩
  | .bv _, l, K, h => by unfold nmS at h; exact ⟨_, h⟩
  | .tl _, l, K, h => by unfold nmS at h; exact ⟨_, h⟩
  | .tv _, l, K, h => by unfold nmS at h; exact ⟨_, h⟩
  | .rp _ _, l, K, h => by unfold nmS at h; exact ⟨_, h⟩
  | .nil, l, K, h => by unfold nmS at h; exact ⟨_, h⟩
  | .raw _, l, K, h => by unfold nmS at h; exact ⟨_, h⟩
  | .un, l, K, h => by unfold nmS at h; exact ⟨_, h⟩
  | .junk, l, K, h => by unfold nmS at h; exact ⟨_, h⟩
theorem nmL_ok : ∀ (s : List S) {l : List Nat} {K : List Nat → Prop}, nmL s l K → ∃ l', K l'
  | [], l, K, h => by unfold nmL at h; exact ⟨_, h⟩
  | x :: r, l, K, h => by
    unfold nmL at h
    obtain ⟨l1, h⟩ := nmS_ok x h
    exact nmL_ok r h
end
theorem nmO_ok {o : Ob} {l : List Nat} {K : List Nat → Prop} (h : nmO o l K) : ∃ l', K l' := by
  unfold nmO at h
  split at h
  · exact nmL_ok _ h
  · exact nmL_ok _ h
  · exact nmL_ok _ h
  · obtain ⟨l1, h⟩ := nmL_ok _ h; exact nmL_ok _ h
  · exact ⟨_, h⟩
theorem nmH_ok {h : List Ob} : ∀ {f p : Nat} {l : List Nat} {K : List Nat → Prop}, nmH h f p l K → ∃ l', K l'
  | 0, p, l, K, hk => hk.elim
  | f + 1, p, l, K, hk => by
    unfold nmH at hk
    split at hk
    · exact ⟨_, hk⟩
    · obtain ⟨l1, hk⟩ := nmO_ok hk; exact nmH_ok hk
theorem ofN : ∀ {l : List Nat} {i : Nat}, i ∈ l → ∃ j, j < l.length ∧ nthN l j = i
  | [], i, hi => by cases hi
  | x :: r, i, hi => by
    rcases List.mem_cons.1 hi with rfl | hi
    · exact ⟨0, by simp, rfl⟩
    · obtain ⟨j, h1, h2⟩ := ofN hi
      exact ⟨j + 1, by simpa using h1, h2⟩
theorem frame_ok {W : Addr → Nat → Nat → Option (List S)} {P : Program} {f : FuncId} {ct : List S → List Ob → (S → List Ob → Prop) → Prop} (hct : ∀ args hs K, ct args hs K → CallSem noW P f args hs K) {args : List S} {h : List Ob} {K : S → List Ob → Prop} (hk : frame ct args h K) : CallSem W P f args h K := by
  unfold frame at hk
  rw [lenK_eq] at hk
  obtain ⟨l, hk⟩ := nmL_ok _ hk
  obtain ⟨ids, hk⟩ := nmH_ok hk
  split at hk
  case h_2 => exact hk.elim
  rename_i hnd hlt
  unfold lenNK at hk
  rw [forceN_eq] at hk
  obtain ⟨args', hk, ha⟩ := smL_ok _ hk
  obtain ⟨hs, hk, hl, ho⟩ := smH_ok _ hk
  have hlt := allLt_ok hlt
  have hinj := nodup_inj ids
  intro w w0 S0 ν vs H hv
  have old : ∀ r, (getO h r).own = true → h[r]? = some (getO h r) := by
    intro r hr
    rw [getO_get] at hr ⊢
    cases hg : h[r]? with
    | none => rw [hg] at hr; cases hr
    | some o => rfl
  -- the blocks that the call may turn
  let S1 : List Nat := (ids.filter fun i => (getO h i).own).map fun i => (ν i).blk
  have hS1 : ∀ x, x ∈ S1 ↔ ∃ i, i ∈ ids ∧ (getO h i).own = true ∧ (ν i).blk = x := by
    intro x
    simp only [S1, List.mem_map, List.mem_filter]
    constructor
    · rintro ⟨i, ⟨h1, h2⟩, h3⟩; exact ⟨i, h1, h2, h3⟩
    · rintro ⟨i, h1, h2, h3⟩; exact ⟨i, ⟨h1, h2⟩, h3⟩
  have memI : ∀ j, j < ids.length → nthN ids j ∈ ids := by
    intro j hj
    have := memN_of ids j hj
    rw [memN_eq] at this
    simpa using this
  have ofI : ∀ i, i ∈ ids → ∃ j, j < ids.length ∧ nthN ids j = i := fun i hi => ofN hi
  have S1lo : ∀ x, x ∈ S1 → (x ∈ S0 ∨ w0.heap.size ≤ x) ∧ x < w.heap.size := by
    intro x hx
    obtain ⟨i, _, h2, rfl⟩ := (hS1 x).1 hx
    exact ⟨H.own i _ (old i h2) h2, Ob.holds_lt (H.ob i _ (old i h2)) h2⟩
  have hsz := H.upd.size
  -- the small memory
  have Hs : HOk noW w S1 (fun j => ν (nthN ids j)) hs w := by
    have hj : ∀ {j : Nat} {o : Ob}, hs[j]? = some o → j < ids.length := fun hj => by
      have := (List.getElem?_eq_some_iff.1 hj).1
      omega
    refine ⟨Upd.refl _ _, fun j o hj1 => ?_, fun j o hj1 hown => ?_, fun i j o o' hij hi hj1 h1 h2 => ?_, fun j cs hj1 => ?_, by intro a o n cs h; cases h⟩
    · rw [hl]
      have so := ho j o hj1
      refine so.holds h.length ν _ w ?_
      rw [getO_get]
      cases hg : h[nthN ids j]? with
      | none => trivial
      | some o => exact H.ob _ _ hg
    · exact Or.inl ((hS1 _).2 ⟨_, memI j (hj hj1), (ho j o hj1).own hown, rfl⟩)
    · exact H.apart _ _ _ _ (fun he => hij (hinj _ _ hnd (hj hi) (hj hj1) he)) (old _ ((ho i o hi).own h1)) (old _ ((ho j o' hj1).own h2)) ((ho i o hi).own h1) ((ho j o' hj1).own h2)
    · obtain ⟨cs', hc⟩ := (ho j _ hj1).win ⟨cs, rfl⟩
      have hw : (ν (nthN ids j)).blk < w0.heap.size ∧ (ν (nthN ids j)).blk ∉ S0 := by
        refine H.win (nthN ids j) cs' ?_
        rw [getO_get] at hc
        cases hg : h[nthN ids j]? with
        | none => rw [hg] at hc; cases hc
        | some o => rw [hg] at hc; simpa using hc
      refine ⟨Nat.lt_of_lt_of_le hw.1 hsz, fun hm => ?_⟩
      rcases (S1lo _ hm).1 with h1 | h1
      · exact hw.2 h1
      · omega
  have hv' : oks hs.length (fun j => ν (nthN ids j)) args' vs := by rw [hl]; exact ha _ _ _ hv
  -- behind the call
  have fin : ∀ v w', Post noW w S1 (fun j => ν (nthN ids j)) hs.length (fun s h' => bgS ids h.length ids.length s fun s2 => bgH ids h.length ids.length ids h' h fun h2 => K s2 h2) v w' → Post W w0 S0 ν h.length K v w' := by
    rintro v w' ⟨s, h', ν', hs1, hn, hν, hok, hsv⟩
    obtain ⟨s2, hs1, hren⟩ := bgS_ok _ hs1
    obtain ⟨h2, hK, hlen, hsrc⟩ := bgH_ok _ _ _ hs1
    rw [hl] at hn hν
    have hrho : ∀ j, rhoN ids h.length ids.length j = tgtN ids h.length j := by
      intro j
      unfold rhoN tgtN
      by_cases hj : j < ids.length
      · rw [if_pos hj, Nat.ble_eq_true_of_le (Nat.succ_le_of_lt hj)]
      · rw [if_neg hj]
        split
        · rename_i hb; exact absurd (Nat.le_of_ble_eq_true hb) hj
        · rfl
    let ν2 : Nat → Env := fun i => if i < h.length then ν i else ν' (ids.length + (i - h.length))
    have hM : h2.length = h.length + (h'.length - ids.length) := hlen
    have hmap : ∀ j, j < h'.length → rhoN ids h.length ids.length j < h2.length ∧ ν2 (rhoN ids h.length ids.length j) = ν' j := by
      intro j hj
      rw [hrho]
      unfold tgtN
      split
      · rename_i hjl
        have := hlt j hjl
        exact ⟨by omega, by simp only [ν2, if_pos this]; exact (hν j hjl).symm⟩
      · rename_i hjl
        refine ⟨by omega, ?_⟩
        have : ¬ h.length + (j - ids.length) < h.length := by omega
        simp only [ν2, if_neg this]
        congr 1; omega
    have hup := hok.upd
    have hν2 : ∀ i, i < h.length → ν2 i = ν i := fun i hi => by simp only [ν2, if_pos hi]
    -- the blocks of what is behind the call
    have own1 : ∀ j o0, h'[j]? = some o0 → o0.own = true → (ν' j).blk ∈ S1 ∨ w.heap.size ≤ (ν' j).blk := fun j o0 hj ho => hok.own j o0 hj ho
    have far1 : ∀ i o, h[i]? = some o → o.own = true → (∀ j, j < h'.length → rhoN ids h.length ids.length j ≠ i) → (ν i).blk ∉ S1 ∧ (ν i).blk < w.heap.size := by
      intro i o hi hown hne
      refine ⟨fun hm => ?_, Ob.holds_lt (H.ob i o hi) hown⟩
      obtain ⟨i', h1, h3, h4⟩ := (hS1 _).1 hm
      obtain ⟨j, hj, rfl⟩ := ofI i' h1
      have hji : nthN ids j ≠ i := by
        have := hne j (by omega)
        rw [hrho] at this
        unfold tgtN at this
        rwa [if_pos hj] at this
      exact H.apart _ _ _ _ hji (old _ h3) hi h3 hown h4
    have src : ∀ i o, h2[i]? = some o → (∃ j o0, h'[j]? = some o0 ∧ rhoN ids h.length ids.length j = i ∧ BgO (rhoN ids h.length ids.length) o0 o) ∨ (h[i]? = some o ∧ i < h.length ∧ (o.own = true → (ν i).blk ∉ S1 ∧ (ν i).blk < w.heap.size)) ∨ o = .dead := by
      intro i o hi
      rcases hsrc i o hi with ⟨j, o0, h1, h3, h4⟩ | ⟨h1, h3⟩ | h1
      · exact Or.inl ⟨j, o0, h1, by rw [hrho]; exact h3, h4⟩
      · exact Or.inr (Or.inl ⟨h1, (List.getElem?_eq_some_iff.1 h1).1, fun ho => far1 i o h1 ho fun j hj => by rw [hrho]; exact h3 ho j hj⟩)
      · exact Or.inr (Or.inr h1)
    have jlt : ∀ {j : Nat} {o : Ob}, h'[j]? = some o → j < h'.length := fun hj => (List.getElem?_eq_some_iff.1 hj).1
    refine ⟨s2, h2, ν2, hK, by omega, hν2, ⟨H.upd.and hup fun x hx => (S1lo x hx).1, fun i o hi => ?_, fun i o hi hown => ?_, fun i i' o o' hii hi hi' hown hown' => ?_, fun i cs hi => ?_, H.far⟩, hren _ _ _ _ _ hmap hsv⟩
    · rcases src i o hi with ⟨j, o0, h1, rfl, h4⟩ | ⟨h1, h3, h4⟩ | rfl
      · rw [(hmap j (jlt h1)).2]
        exact h4.holds _ _ _ _ _ _ hmap (hok.ob j o0 h1)
      · rw [hν2 i h3]
        refine Ob.holds_mono hν2 (by omega) ?_
        have hob := H.ob i o h1
        cases hown : o.own with
        | true => exact Ob.holds_heap hob (hup.block _ (h4 hown).2 (h4 hown).1)
        | false =>
          cases o with
          | cells T cs => cases hown
          | row T sz n cs => cases hown
          | mapo ks vs => cases hown
          | win cs =>
            have hw := H.win i cs h1
            refine Ob.holds_heap hob (hup.block _ (Nat.lt_of_lt_of_le hw.1 hsz) fun hx => ?_)
            rcases (S1lo _ hx).1 with h5 | h5
            · exact hw.2 h5
            · omega
          | orc l => trivial
          | dead => trivial
      · trivial
    · rcases src i o hi with ⟨j, o0, h1, rfl, h4⟩ | ⟨h1, h3, h4⟩ | rfl
      · rw [(hmap j (jlt h1)).2]
        rcases own1 j o0 h1 (h4.own hown) with h5 | h5
        · exact (S1lo _ h5).1
        · exact Or.inr (by omega)
      · rw [hν2 i h3]; exact H.own i o h1 hown
      · cases hown
    · rcases src i o hi with ⟨j, o0, h1, rfl, h4⟩ | ⟨h1, h3, h4⟩ | rfl
      · rw [(hmap j (jlt h1)).2]
        have b1 := own1 j o0 h1 (h4.own hown)
        rcases src i' o' hi' with ⟨j', o0', h1', rfl, h4'⟩ | ⟨h1', h3', h4'⟩ | rfl
        · rw [(hmap j' (jlt h1')).2]
          exact hok.apart j j' o0 o0' (fun he => hii (by rw [he])) h1 h1' (h4.own hown) (h4'.own hown')
        · rw [hν2 i' h3']
          have b2 := h4' hown'
          intro he
          rw [he] at b1
          rcases b1 with b1 | b1
          · exact b2.1 b1
          · omega
        · cases hown'
      · rw [hν2 i h3]
        have b1 := h4 hown
        rcases src i' o' hi' with ⟨j', o0', h1', rfl, h4'⟩ | ⟨h1', h3', h4'⟩ | rfl
        · rw [(hmap j' (jlt h1')).2]
          have b2 := own1 j' o0' h1' (h4'.own hown')
          intro he
          rw [← he] at b2
          rcases b2 with b2 | b2
          · exact b1.1 b2
          · omega
        · rw [hν2 i' h3']
          exact H.apart i i' o o' hii h1 h1' hown hown'
        · cases hown'
      · cases hown
    · rcases src i _ hi with ⟨j, o0, h1, h3, h4⟩ | ⟨h1, h3, h4⟩ | h1
      · exact absurd rfl (h4.win cs)
      · rw [hν2 i h3]; exact H.win i cs h1
      · cases h1
  have hcs := hct _ _ _ hk w w S1 _ vs Hs hv'
  rcases hcs with ⟨he, hc⟩ | ⟨v, w', he, hp⟩
  · exact Or.inl ⟨he, hc.mono fun e w' ⟨v, h1, h2⟩ => ⟨v, h1, fin v w' h2⟩⟩
  · exact Or.inr ⟨v, w', he, fin v w' hp⟩
end Go.SX
