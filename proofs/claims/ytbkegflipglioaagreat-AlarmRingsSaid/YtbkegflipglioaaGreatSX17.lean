/- SX: loops by an invariant; states that say less. -/
import Derived.Test.YtbkegflipglioaaGreatSX16
namespace Go.SX
open Go.RowKit
def nthN : List Nat → Nat → Nat
  | [], _ => 0
  | x :: _, 0 => x
  | _ :: r, n + 1 => nthN r n
def nnW (a b : NN) (K : Prop) : Prop := match a, b with
  | .l a, .l b => (match Nat.beq a b with
    | true => K
    | false => False)
  | a, b => a.val = b.val ∧ K
def capW (a b : Cap) (K : Prop) : Prop := match a, b with
  | .lit a, .lit b => nnW a b K
  | .rest a, .rest b => nnW a b K
  | _, _ => False
def eqW (a b : Nat) (K : Prop) : Prop := match Nat.beq a b with
  | true => K
  | false => False
def eqK (a b : IntKind) (K : Prop) : Prop := match (if a = b then true else false) with
  | true => K
  | false => False
def eqI (a b : Int) (K : Prop) : Prop := match stdBF .eq a b with
  | true => K
  | false => False
def eqB (a b : Bool) (K : Prop) : Prop := match a, b with
  | true, true => K
  | false, false => K
  | _, _ => False
def rawW (a b : Value) (K : Prop) : Prop := match a, b with
  | .slice none 0 0, .slice none 0 0 => K
  | .nilIface, .nilIface => K
  | .nilFunc, .nilFunc => K
  | a, b => a = b ∧ K
/-- What these say does not hang on the names. -/
def flats (cs : List S) : Prop := ∀ m ν m' ν' vs, S.oks m ν cs vs → S.oks m' ν' cs vs
section
variable (ρ : List Nat) (M : Nat)
def idW (i j : Nat) (K : Prop) : Prop := match Nat.beq i (nthN ρ j), Nat.ble (Nat.succ j) M with
  | true, true => K
  | _, _ => False
mutual
/-- What is said less: s, then s'. New names are below M; ρ tells their old ones. -/
def wkS : S → S → Prop → Prop
  | s, s', K => match s' with
    | .junk => K
    | .il k' n' => (match s with
      | .il k n => eqK k k' (eqI n n' K)
      | .iv k n => eqK k k' (n = n' ∧ K)
      | _ => False)
    | .iv k' n' => (match s with
      | .il k n => eqK k k' (n = n' ∧ K)
      | .iv k n => eqK k k' (n = n' ∧ K)
      | _ => False)
    | .bl x' => (match s with
      | .bl x => eqB x x' K
      | .bv x => x = x' ∧ K
      | _ => False)
    | .bv x' => (match s with
      | .bl x => x = x' ∧ K
      | .bv x => x = x' ∧ K
      | _ => False)
    | .tl x' => (match s with
      | .tl x => x = x' ∧ K
      | .tv x => x = x' ∧ K
      | _ => False)
    | .tv x' => (match s with
      | .tl x => x = x' ∧ K
      | .tv x => x = x' ∧ K
      | _ => False)
    | .ptr j o' => (match s with
      | .ptr i o => idW ρ M i j (nnW o o' K)
      | _ => False)
    | .rp a' o' => (match s with
      | .rp a o => a = a' ∧ nnW o o' K
      | _ => False)
    | .nil => (match s with
      | .nil => K
      | _ => False)
    | .sli j o' n' c' z' => (match s with
      | .sli i o n c z => idW ρ M i j (nnW o o' (nnW n n' (capW c c' (eqB z z' K))))
      | _ => False)
    | .raw v' => (match s with
      | .raw v => rawW v v' K
      | _ => False)
    | .fn f' cs' => (match s with
      | .fn f cs => eqW f f' (wkL cs cs' K)
      | _ => False)
    | .bm f' cs' => (match s with
      | .bm f cs => eqW f f' (wkL cs cs' K)
      | _ => False)
    | .ifc t' x' => (match s with
      | .ifc t x => eqW t t' (wkS x x' K)
      | _ => False)
    | .mp j => (match s with
      | .mp i => idW ρ M i j K
      | _ => False)
    | .agg cs' => (match s with
      | .agg cs => wkL cs cs' K
      | _ => False)
    | .tup cs' => (match s with
      | .tup cs => wkL cs cs' K
      | _ => False)
    | .un => (match s with
      | .un => K
      | _ => False)
def wkL : List S → List S → Prop → Prop
  | [], [], K => K
  | x :: r, y :: q, K => wkS x y (wkL r q K)
  | _, _, _ => False
end
def wkO (o o' : Ob) (K : Prop) : Prop := match o' with
  | .dead => K
  | .orc _ => K
  | .cells T' cs' => (match o with
    | .cells T cs => eqW T T' (wkL ρ M cs cs' K)
    | _ => False)
  | .row T' sz' n' cs' => (match o with
    | .row T sz n cs => eqW T T' (eqW sz sz' (nnW n n' (match n' with
      | .l _ => wkL ρ M cs cs' K
      | .v _ => cs = cs' ∧ (flats cs' ∧ K))))
    | _ => False)
  | .win cs' => (match o with
    | .win cs => wkL ρ M cs cs' K
    | _ => False)
  | .mapo ks' vs' => (match o with
    | .mapo ks vs => wkL ρ M ks ks' (wkL ρ M vs vs' K)
    | _ => False)
def wkH (old : List Ob) : List Nat → List Ob → Prop → Prop
  | _, [], K => K
  | r :: q, o' :: h', K => wkO ρ M (getO old r) o' (wkH old q h' K)
  | [], _ :: _, _ => False
end
def nodupN : List Nat → Bool
  | [] => true
  | x :: r => match memN r x with
    | true => false
    | false => nodupN r
def idTo : Nat → Nat → List Nat → Bool
  | 0, _, _ => true
  | _ + 1, _, [] => false
  | n + 1, k, x :: r => match Nat.beq x k with
    | true => idTo n (Nat.succ k) r
    | false => false
def wkSt (n0 : Nat) (ρ : List Nat) (st st' : St) (K : Prop) : Prop := match nodupN ρ, idTo n0 0 ρ, Nat.ble n0 st'.h.length with
  | true, true, true => lenK st'.h fun m => wkL ρ m st.t st'.t (wkH ρ m st.h ρ st'.h K)
  | _, _, _ => False
theorem nnW_ok {a b : NN} {K : Prop} (h : nnW a b K) : a.val = b.val ∧ K := by
  unfold nnW at h
  split at h
  · split at h
    · rename_i hb; exact ⟨Nat.eq_of_beq_eq_true hb, h⟩
    · exact h.elim
  · exact h
theorem capW_ok {a b : Cap} {K : Prop} (h : capW a b K) : (∀ e, a.val e = b.val e) ∧ K := by
  unfold capW at h
  split at h
  · obtain ⟨h1, h2⟩ := nnW_ok h; exact ⟨fun e => by simp only [Cap.val, h1], h2⟩
  · obtain ⟨h1, h2⟩ := nnW_ok h; exact ⟨fun e => by simp only [Cap.val, h1], h2⟩
  · exact h.elim
theorem eqW_ok {a b : Nat} {K : Prop} (h : eqW a b K) : a = b ∧ K := by
  unfold eqW at h
  split at h
  · rename_i hb; exact ⟨Nat.eq_of_beq_eq_true hb, h⟩
  · exact h.elim
theorem eqK_ok {a b : IntKind} {K : Prop} (h : eqK a b K) : a = b ∧ K := by
  unfold eqK at h
  split at h
  · rename_i hb
    split at hb
    · rename_i e; exact ⟨e, h⟩
    · cases hb
  · exact h.elim
theorem eqI_ok {a b : Int} {K : Prop} (h : eqI a b K) : a = b ∧ K := by
  unfold eqI at h
  split at h
  · rename_i hb; rw [stdBF_eq] at hb; exact ⟨by simpa [stdB] using hb, h⟩
  · exact h.elim
theorem eqB_ok {a b : Bool} {K : Prop} (h : eqB a b K) : a = b ∧ K := by
  unfold eqB at h
  split at h
  · exact ⟨rfl, h⟩
  · exact ⟨rfl, h⟩
  · exact h.elim
theorem rawW_ok {a b : Value} {K : Prop} (h : rawW a b K) : a = b ∧ K := by
  unfold rawW at h
  split at h
  · exact ⟨rfl, h⟩
  · exact ⟨rfl, h⟩
  · exact ⟨rfl, h⟩
  · exact h
theorem idW_ok {ρ : List Nat} {M i j : Nat} {K : Prop} (h : idW ρ M i j K) : i = nthN ρ j ∧ j < M ∧ K := by
  unfold idW at h
  split at h
  · rename_i h1 h2; exact ⟨Nat.eq_of_beq_eq_true h1, Nat.le_of_ble_eq_true h2, h⟩
  · exact h.elim
section
variable {ρ : List Nat} {M m : Nat} {ν : Nat → Env}
mutual
theorem wkS_ok : ∀ (s s' : S) {K : Prop}, wkS ρ M s s' K → K ∧ ∀ v, s.ok m ν v → s'.ok M (fun j => ν (nthN ρ j)) v
  | s, .junk, K, h => by unfold wkS at h; exact ⟨h, fun v _ => by simp only [S.ok]⟩
  | s, .il k' n', K, h => by
    unfold wkS at h
    cases s <;> simp only at h
    all_goals first | exact h.elim | skip
    · obtain ⟨e1, h1⟩ := eqK_ok h; obtain ⟨e2, h2⟩ := eqI_ok h1; subst e1; subst e2; exact ⟨h2, fun v hv => by simpa only [S.ok] using hv⟩
    · obtain ⟨e1, h1⟩ := eqK_ok h; obtain ⟨e2, h2⟩ := h1; subst e1; subst e2; exact ⟨h2, fun v hv => by simpa only [S.ok] using hv⟩
  | s, .iv k' n', K, h => by
    unfold wkS at h
    cases s <;> simp only at h
    all_goals first | exact h.elim | skip
    · obtain ⟨e1, h1⟩ := eqK_ok h; obtain ⟨e2, h2⟩ := h1; subst e1; subst e2; exact ⟨h2, fun v hv => by simpa only [S.ok] using hv⟩
    · obtain ⟨e1, h1⟩ := eqK_ok h; obtain ⟨e2, h2⟩ := h1; subst e1; subst e2; exact ⟨h2, fun v hv => by simpa only [S.ok] using hv⟩
  | s, .bl x', K, h => by
    unfold wkS at h
    cases s <;> simp only at h
    all_goals first | exact h.elim | skip
    · obtain ⟨e1, h1⟩ := eqB_ok h; subst e1; exact ⟨h1, fun v hv => by simpa only [S.ok] using hv⟩
    · obtain ⟨e1, h1⟩ := h; subst e1; exact ⟨h1, fun v hv => by simpa only [S.ok] using hv⟩
  | s, .bv x', K, h => by
    unfold wkS at h
    cases s <;> simp only at h
    all_goals first | exact h.elim | skip
    all_goals (obtain ⟨e1, h1⟩ := h; subst e1; exact ⟨h1, fun v hv => by simpa only [S.ok] using hv⟩)
  | s, .tl x', K, h => by
    unfold wkS at h
    cases s <;> simp only at h
    all_goals first | exact h.elim | skip
    all_goals (obtain ⟨e1, h1⟩ := h; subst e1; exact ⟨h1, fun v hv => by simpa only [S.ok] using hv⟩)
  | s, .tv x', K, h => by
    unfold wkS at h
    cases s <;> simp only at h
    all_goals first | exact h.elim | skip
    all_goals (obtain ⟨e1, h1⟩ := h; subst e1; exact ⟨h1, fun v hv => by simpa only [S.ok] using hv⟩)
  | s, .ptr j o', K, h => by
    unfold wkS at h
    cases s <;> simp only at h
    all_goals first | exact h.elim | skip
    obtain ⟨e1, hj, h1⟩ := idW_ok h; subst e1; obtain ⟨ho, h2⟩ := nnW_ok h1
    exact ⟨h2, fun v hv => by simp only [S.ok] at hv ⊢; rw [← ho]; exact ⟨hj, hv.2⟩⟩
  | s, .rp a' o', K, h => by
    unfold wkS at h
    cases s <;> simp only at h
    all_goals first | exact h.elim | skip
    obtain ⟨e1, h1⟩ := h; subst e1; obtain ⟨ho, h2⟩ := nnW_ok h1
    exact ⟨h2, fun v hv => by simp only [S.ok] at hv ⊢; rw [← ho]; exact hv⟩
  | s, .nil, K, h => by
    unfold wkS at h
    cases s <;> simp only at h
    all_goals first | exact h.elim | skip
    exact ⟨h, fun v hv => by simpa only [S.ok] using hv⟩
  | s, .sli j o' n' c' z', K, h => by
    unfold wkS at h
    cases s <;> simp only at h
    all_goals first | exact h.elim | skip
    obtain ⟨e1, hj, h1⟩ := idW_ok h; subst e1; obtain ⟨ho, h2⟩ := nnW_ok h1; obtain ⟨hn, h3⟩ := nnW_ok h2; obtain ⟨hc, h4⟩ := capW_ok h3; obtain ⟨e2, h5⟩ := eqB_ok h4; subst e2
    exact ⟨h5, fun v hv => by simp only [S.ok] at hv ⊢; rw [← ho, ← hn, ← hc]; exact ⟨hj, hv.2⟩⟩
  | s, .raw v', K, h => by
    unfold wkS at h
    cases s <;> simp only at h
    all_goals first | exact h.elim | skip
    obtain ⟨e1, h1⟩ := rawW_ok h; subst e1
    exact ⟨h1, fun v hv => by simpa only [S.ok] using hv⟩
  | s, .fn f' cs', K, h => by
    unfold wkS at h
    cases s <;> simp only at h
    all_goals first | exact h.elim | skip
    obtain ⟨e1, h1⟩ := eqW_ok h; subst e1
    obtain ⟨h3, h2⟩ := wkL_ok _ cs' h1
    exact ⟨h3, fun v hv => by simp only [S.ok] at hv ⊢; obtain ⟨vs, g1, g2⟩ := hv; exact ⟨vs, g1, h2 vs g2⟩⟩
  | s, .bm f' cs', K, h => by
    unfold wkS at h
    cases s <;> simp only at h
    all_goals first | exact h.elim | skip
    obtain ⟨e1, h1⟩ := eqW_ok h; subst e1
    obtain ⟨h3, h2⟩ := wkL_ok _ cs' h1
    exact ⟨h3, fun v hv => by simp only [S.ok] at hv ⊢; obtain ⟨vs, g1, g2⟩ := hv; exact ⟨vs, g1, h2 vs g2⟩⟩
  | s, .ifc t' x', K, h => by
    unfold wkS at h
    cases s <;> simp only at h
    all_goals first | exact h.elim | skip
    obtain ⟨e1, h1⟩ := eqW_ok h; subst e1
    obtain ⟨h3, h2⟩ := wkS_ok _ x' h1
    exact ⟨h3, fun v hv => by simp only [S.ok] at hv ⊢; obtain ⟨u, g1, g2⟩ := hv; exact ⟨u, g1, h2 u g2⟩⟩
  | s, .mp j, K, h => by
    unfold wkS at h
    cases s <;> simp only at h
    all_goals first | exact h.elim | skip
    obtain ⟨e1, hj, h1⟩ := idW_ok h; subst e1
    exact ⟨h1, fun v hv => by simp only [S.ok] at hv ⊢; exact ⟨hj, hv.2⟩⟩
  | s, .agg cs', K, h => by
    unfold wkS at h
    cases s <;> simp only at h
    all_goals first | exact h.elim | skip
    obtain ⟨h3, h2⟩ := wkL_ok _ cs' h
    exact ⟨h3, fun v hv => by simp only [S.ok] at hv ⊢; obtain ⟨vs, g1, g2⟩ := hv; exact ⟨vs, g1, h2 vs g2⟩⟩
  | s, .tup cs', K, h => by
    unfold wkS at h
    cases s <;> simp only at h
    all_goals first | exact h.elim | skip
    obtain ⟨h3, h2⟩ := wkL_ok _ cs' h
    exact ⟨h3, fun v hv => by simp only [S.ok] at hv ⊢; obtain ⟨vs, g1, g2⟩ := hv; exact ⟨vs, g1, h2 vs g2⟩⟩
  | s, .un, K, h => by
    unfold wkS at h
    cases s <;> simp only at h
    all_goals first | exact h.elim | skip
    exact ⟨h, fun v hv => by simpa only [S.ok] using hv⟩
theorem wkL_ok : ∀ (l l' : List S) {K : Prop}, wkL ρ M l l' K → K ∧ ∀ vs, S.oks m ν l vs → S.oks M (fun j => ν (nthN ρ j)) l' vs
  | [], [], K, h => by unfold wkL at h; exact ⟨h, fun vs hv => by simpa only [S.oks] using hv⟩
  | x :: r, [], K, h => by unfold wkL at h; exact h.elim
  | [], y :: q, K, h => by unfold wkL at h; exact h.elim
  | x :: r, y :: q, K, h => by
    unfold wkL at h
    obtain ⟨h4, h2⟩ := wkS_ok x y h
    obtain ⟨h5, h3⟩ := wkL_ok r q h4
    exact ⟨h5, fun vs hv => by simp only [S.oks] at hv ⊢; obtain ⟨v, vr, g1, g2, g3⟩ := hv; exact ⟨v, vr, g1, h2 v g2, h3 vr g3⟩⟩
end
theorem wkO_ok {o o' : Ob} {K : Prop} (h : wkO ρ M o o' K) : K ∧ (o'.own = true → o.own = true) ∧ ((∃ cs, o' = .win cs) → ∃ cs, o = .win cs) ∧ ∀ e w, o.holds m ν e w → o'.holds M (fun j => ν (nthN ρ j)) e w := by
  unfold wkO at h
  cases o' <;> simp only at h
  case dead => exact ⟨h, (fun h => by cases h), (fun h => by obtain ⟨cs, h⟩ := h; cases h), fun _ _ _ => trivial⟩
  case orc l => exact ⟨h, (fun h => by cases h), (fun h => by obtain ⟨cs, h⟩ := h; cases h), fun _ _ _ => trivial⟩
  case cells T' cs' =>
    cases o <;> simp only at h
    all_goals first | exact h.elim | skip
    obtain ⟨e1, h1⟩ := eqW_ok h; subst e1
    obtain ⟨h3, h2⟩ := wkL_ok (m := m) (ν := ν) _ _ h1
    exact ⟨h3, fun _ => rfl, fun h => (by obtain ⟨cs, h⟩ := h; cases h), fun e w hh => by obtain ⟨h0, vs, g1, g2⟩ := hh; exact ⟨h0, vs, h2 vs g1, g2⟩⟩
  case row T' sz' n' cs' =>
    cases o <;> simp only at h
    all_goals first | exact h.elim | skip
    rename_i T sz n cs
    obtain ⟨e1, h1⟩ := eqW_ok h; subst e1; obtain ⟨e2, h2⟩ := eqW_ok h1; subst e2; obtain ⟨hn, h3⟩ := nnW_ok h2
    have key : K ∧ ∀ vs, S.oks m ν cs vs → S.oks M (fun j => ν (nthN ρ j)) cs' vs := by
      cases n' with
      | l n => exact wkL_ok (m := m) (ν := ν) _ _ h3
      | v n => obtain ⟨e1, g1, g2⟩ := h3; subst e1; exact ⟨g2, fun vs hv => g1 _ _ _ _ _ hv⟩
    obtain ⟨h5, h4⟩ := key
    exact ⟨h5, fun _ => rfl, fun h => (by obtain ⟨cs, h⟩ := h; cases h), fun e w hh => by
      obtain ⟨h0, vs, cur, g1, g2, g3⟩ := hh
      rw [hn] at g3
      exact ⟨h0, vs, cur, h4 vs g1, g2, g3⟩⟩
  case win cs' =>
    cases o <;> simp only at h
    all_goals first | exact h.elim | skip
    obtain ⟨h3, h2⟩ := wkL_ok (m := m) (ν := ν) _ _ h
    exact ⟨h3, fun h => (by cases h), fun _ => ⟨_, rfl⟩, fun e w hh => by obtain ⟨vs, g1, g2⟩ := hh; exact ⟨vs, h2 vs g1, g2⟩⟩
  case mapo ks' vs' =>
    cases o <;> simp only at h
    all_goals first | exact h.elim | skip
    obtain ⟨h4, h2⟩ := wkL_ok (m := m) (ν := ν) _ _ h
    obtain ⟨h5, h3⟩ := wkL_ok (m := m) (ν := ν) _ _ h4
    exact ⟨h5, fun _ => rfl, fun h => (by obtain ⟨cs, h⟩ := h; cases h), fun e w hh => by obtain ⟨h0, a, b, g1, g2, g3⟩ := hh; exact ⟨h0, a, b, h2 a g1, h3 b g2, g3⟩⟩
theorem getO_get : ∀ (t : List Ob) (i : Nat), getO t i = (t[i]?).getD .dead
  | [], i => by rw [getO_nil]; simp
  | x :: r, 0 => by rw [getO_zero]; simp
  | x :: r, n + 1 => by rw [getO_succ, getO_get r n]; simp
theorem wkH_ok {old : List Ob} : ∀ (q : List Nat) (h' : List Ob) {K : Prop}, wkH ρ M old q h' K → K ∧ ∀ j o', h'[j]? = some o' → j < q.length ∧ (o'.own = true → (getO old (nthN q j)).own = true) ∧ ((∃ cs, o' = .win cs) → ∃ cs, getO old (nthN q j) = .win cs) ∧ ∀ e w, (getO old (nthN q j)).holds m ν e w → o'.holds M (fun j => ν (nthN ρ j)) e w
  | q, [], K, h => by
    unfold wkH at h
    exact ⟨h, fun j o' hj => by simp at hj⟩
  | [], _ :: _, K, h => by unfold wkH at h; exact h.elim
  | r :: q, o :: h', K, h => by
    unfold wkH at h
    obtain ⟨h1, g1, g2, g3⟩ := wkO_ok (m := m) (ν := ν) h
    obtain ⟨h2, g4⟩ := wkH_ok q h' h1
    refine ⟨h2, fun j o' hj => ?_⟩
    cases j with
    | zero =>
      simp only [List.getElem?_cons_zero, Option.some.injEq] at hj
      subst hj
      exact ⟨by simp, g1, g2, g3⟩
    | succ j =>
      simp only [List.getElem?_cons_succ] at hj
      obtain ⟨k1, k2⟩ := g4 j o' hj
      exact ⟨by simp; omega, k2⟩
end
theorem memN_of : ∀ (l : List Nat) (j : Nat), j < l.length → memN l (nthN l j) = true := by
  intro l j hj
  rw [memN_eq]
  induction l generalizing j with
  | nil => simp at hj
  | cons x r ih =>
    cases j with
    | zero => simp [nthN]
    | succ j => simp [nthN]; right; have := ih j (by simpa using hj); simpa using this
theorem nodup_inj : ∀ (l : List Nat) (i j : Nat), nodupN l = true → i < l.length → j < l.length → nthN l i = nthN l j → i = j
  | [], i, _, _, hi, _, _ => by simp at hi
  | x :: r, i, j, h, hi, hj, he => by
    unfold nodupN at h
    split at h
    · cases h
    · rename_i hm
      cases i with
      | zero =>
        cases j with
        | zero => rfl
        | succ j =>
          simp only [nthN] at he
          have := memN_of r j (by simpa using hj)
          rw [← he, hm] at this; cases this
      | succ i =>
        cases j with
        | zero =>
          simp only [nthN] at he
          have := memN_of r i (by simpa using hi)
          rw [he, hm] at this; cases this
        | succ j =>
          simp only [nthN] at he
          rw [nodup_inj r i j h (by simpa using hi) (by simpa using hj) he]
theorem idTo_ok : ∀ (n k : Nat) (l : List Nat), idTo n k l = true → ∀ i, i < n → nthN l i = k + i
  | 0, _, _, _, i, hi => by omega
  | n + 1, k, [], h, _, _ => by unfold idTo at h; cases h
  | n + 1, k, x :: r, h, i, hi => by
    unfold idTo at h
    split at h
    · rename_i hx
      have hx := Nat.eq_of_beq_eq_true hx
      cases i with
      | zero => simp only [nthN]; omega
      | succ i =>
        have := idTo_ok n (k + 1) r h i (by omega)
        simp only [nthN]; omega
    · cases h
section
variable {W : Addr → Nat → Nat → Option (List S)}
variable {P : Program} {tt : Nat → Option TI}
theorem wkSt_ok {n0 : Nat} {ρ : List Nat} {st st' : St} {K : Prop} (h : wkSt n0 ρ st st' K) : K ∧ n0 ≤ st'.h.length ∧ (∀ i, i < n0 → nthN ρ i = i) ∧
    ∀ {w0 w : World} {S0 : List Nat} {ν : Nat → Env} {vs : List Value}, HOk W w0 S0 ν st.h w → oks st.h.length ν st.t vs → HOk W w0 S0 (fun j => ν (nthN ρ j)) st'.h w ∧ oks st'.h.length (fun j => ν (nthN ρ j)) st'.t vs := by
  unfold wkSt at h
  split at h
  case h_2 => exact h.elim
  rename_i hnd hid hle
  rw [lenK_eq] at h
  have hK : K := (wkH_ok (m := 0) (ν := fun _ => ⟨0, 0, 0⟩) _ _ (wkL_ok (m := 0) (ν := fun _ => ⟨0, 0, 0⟩) _ _ h).1).1
  refine ⟨hK, Nat.le_of_ble_eq_true hle, fun i hi => by rw [idTo_ok _ _ _ hid i hi]; omega, ?_⟩
  intro w0 w S0 ν vs H ht
  obtain ⟨h1, g1⟩ := wkL_ok (m := st.h.length) (ν := ν) _ _ h
  obtain ⟨_, g2⟩ := wkH_ok (m := st.h.length) (ν := ν) _ _ h1
  have old : ∀ r, (getO st.h r).own = true → st.h[r]? = some (getO st.h r) := by
    intro r hr
    rw [getO_get] at hr ⊢
    cases hg : st.h[r]? with
    | none => rw [hg] at hr; cases hr
    | some o => rfl
  refine ⟨⟨H.upd, fun i o hi => ?_, fun i o hi ho => ?_, fun i j o o' hij hi hj ho ho' => ?_, fun i cs hi => ?_, H.far⟩, g1 vs ht⟩
  · obtain ⟨_, _, _, k4⟩ := g2 i o hi
    refine k4 _ _ ?_
    rw [getO_get]
    cases hg : st.h[nthN ρ i]? with
    | none => trivial
    | some o => exact H.ob _ _ hg
  · obtain ⟨_, k2, _, _⟩ := g2 i o hi
    exact H.own _ _ (old _ (k2 ho)) (k2 ho)
  · obtain ⟨k1, k2, _, _⟩ := g2 i o hi
    obtain ⟨k1', k2', _, _⟩ := g2 j o' hj
    exact H.apart _ _ _ _ (fun he => hij (nodup_inj _ _ _ hnd k1 k1' he)) (old _ (k2 ho)) (old _ (k2' ho')) (k2 ho) (k2' ho')
  · obtain ⟨_, _, k3, _⟩ := g2 i _ hi
    obtain ⟨cs', hc⟩ := k3 ⟨cs, rfl⟩
    refine H.win (nthN ρ i) cs' ?_
    rw [getO_get] at hc
    cases hg : st.h[nthN ρ i]? with
    | none => rw [hg] at hc; cases hc
    | some o => rw [hg] at hc; simpa using hc
theorem HOk.orcs {w0 w : World} {S0 : List Nat} {ν : Nat → Env} {l l' : List OI} {h : List Ob} (H : HOk W w0 S0 ν (.orc l :: h) w) : HOk W w0 S0 ν (.orc l' :: h) w := by
  have key : ∀ {i : Nat} {o : Ob}, (Ob.orc l' :: h)[i]? = some o → o = .orc l' ∨ (Ob.orc l :: h)[i]? = some o := by
    intro i o hi
    cases i with
    | zero => simp only [List.getElem?_cons_zero, Option.some.injEq] at hi; exact Or.inl hi.symm
    | succ i => exact Or.inr (by simpa using hi)
  refine ⟨H.upd, fun i o hi => ?_, fun i o hi ho => ?_, fun i j o o' hij hi hj ho ho' => ?_, fun i cs hi => ?_, H.far⟩
  · rcases key hi with rfl | h1
    · trivial
    · exact H.ob i o h1
  · rcases key hi with rfl | h1
    · cases ho
    · exact H.own i o h1 ho
  · rcases key hi with rfl | h1
    · cases ho
    · rcases key hj with rfl | h2
      · cases ho'
      · exact H.apart i j o o' hij h1 h2 ho ho'
  · rcases key hi with h0 | h1
    · cases h0
    · exact H.win i cs h1
theorem HOk.orcs2 {w0 w : World} {S0 : List Nat} {ν : Nat → Env} {l l' m m' : List OI} {h : List Ob} (H : HOk W w0 S0 ν (.orc l :: .orc m :: h) w) : HOk W w0 S0 ν (.orc l' :: .orc m' :: h) w := by
  have := HOk.orc (H.orcs (l' := l')) (id := 1) (l := m) rfl m'
  exact this
theorem CodeSem.orc {n0 : Nat} {c : Code} {t : List S} {l l' m m' : List OI} {h : List Ob} {K : X → St → Prop} (hc : CodeSem W P n0 c ⟨t, .orc l :: .orc m :: h⟩ K) : CodeSem W P n0 c ⟨t, .orc l' :: .orc m' :: h⟩ K :=
  fun hn w w0 S0 ν a H ht hd => hc hn w w0 S0 ν a H.orcs2 ht hd
theorem loop_sem {n0 : Nat} {d : Cd} {st : St} {K : X → St → Prop} (h : ∀ c, comp c = d → CodeSem W P n0 c st fun x st' => (match x with
    | .normal => LoopSem W P n0 d st' K
    | x => K x st')) : LoopSem W P n0 d st K := by
  intro hn c hc w w0 S0 ν a H ht hd
  have hsem := h c hc hn w w0 S0 ν a H ht hd
  refine wp_mono hsem fun e a' w' hf => ?_
  obtain ⟨x, st', ν', g1, g2, g3, g4, g5, g6, g7⟩ := hf
  cases x with
  | normal =>
    cases e with
    | normal =>
      exact loopWp_of (wp_mono (g2 g3 c hc w' w0 S0 ν' a' g5 g6 g7) fun e a w hq => by
        cases e with
        | normal => exact hq.mono fun e a w hf => hf.trans (Nat.le_refl _) g4
        | _ => exact Fin.trans (Nat.le_refl _) g4 hq)
    | _ => exact g1.elim
  | exit i => cases e <;> first | exact g1.elim | exact ⟨.exit i, st', ν', g1, g2, g3, g4, g5, g6, g7⟩
  | goto l => cases e <;> first | exact g1.elim | exact ⟨.goto l, st', ν', g1, g2, g3, g4, g5, g6, g7⟩
  | ret => cases e <;> first | exact g1.elim | exact ⟨.ret, st', ν', g1, g2, g3, g4, g5, g6, g7⟩
theorem LoopSem.weak {n0 : Nat} {d : Cd} {ρ : List Nat} {st st' : St} {Q : Prop} {K : X → St → Prop} (hw : wkSt n0 ρ st st' Q) (h : LoopSem W P n0 d st' K) : LoopSem W P n0 d st K := by
  intro hn c hc w w0 S0 ν a H ht hd
  obtain ⟨_, hn', hid, hs⟩ := wkSt_ok (W := W) hw
  obtain ⟨H', ht'⟩ := hs H ht
  have he : ∀ i, i < n0 → ν (nthN ρ i) = ν i := fun i hi => by rw [hid i hi]
  refine wp_mono (h hn' c hc w w0 S0 _ a H' ht' hd) fun e a w hq => ?_
  cases e with
  | normal => exact hq.mono fun e a w hf => hf.trans (Nat.le_refl _) he
  | _ => exact Fin.trans (Nat.le_refl _) he hq
/-- Behind a round. -/
def roundK (n0 : Nat) (K : X → St → Prop) (ρ : List Nat) (st1 : St) (Q : Prop) : X → St → Prop := fun x st' => match x with
  | .normal => wkSt n0 ρ st' st1 Q
  | x => K x st'
theorem loop_inv (hT : TOk P tt) (hm : P.follows .mixedOrders = true) {callK : FuncId → List S → List Ob → (S → List Ob → Prop) → Prop} {loopK : Nat → Cd → St → (X → St → Prop) → Prop}
    (hcall : ∀ f args h K, callK f args h K → CallSem W P f args h K) (hloop : ∀ n0 d st K, loopK n0 d st K → LoopSem W P n0 d st K) {ι : Type} {n0 : Nat} {d : Cd} {K : X → St → Prop} (T : ι → List S) (H : ι → List Ob) (I : ι → Prop) (μ : ι → Nat)
    (hround : ∀ x, I x → ∃ l m ρ y, exec (std W) tt callK loopK n0 d ⟨T x, .orc l :: .orc m :: H x⟩ (roundK n0 K ρ ⟨T y, .orc [] :: .orc [] :: H y⟩ (I y ∧ μ y < μ x))) : ∀ (n : Nat) (x : ι) (l m : List OI), μ x < n → I x → LoopSem W P n0 d ⟨T x, .orc l :: .orc m :: H x⟩ K := by
  intro n
  induction n with
  | zero => intro x l m hx; omega
  | succ n ih =>
    intro x l m hx hI
    obtain ⟨l', m', ρ, y, hr⟩ := hround x hI
    refine loop_sem fun c hc => ?_
    have hs : CodeSem W P n0 c ⟨T x, .orc l' :: .orc m' :: H x⟩ (roundK n0 K ρ ⟨T y, .orc [] :: .orc [] :: H y⟩ (I y ∧ μ y < μ x)) := exec_sound hT hm hcall hloop n0 c _ _ (by rw [hc]; exact hr)
    refine CodeSem.orc (l := l') (m := m') (hs.mono fun e st' hk => ?_)
    cases e with
    | normal =>
      have hk : wkSt n0 ρ st' ⟨T y, .orc [] :: .orc [] :: H y⟩ (I y ∧ μ y < μ x) := hk
      have hq := (wkSt_ok (W := W) hk).1
      exact LoopSem.weak hk (ih y [] [] (by omega) hq.1)
    | _ => exact hk
end
/-! A law's code, about its first loop. -/
inductive Fr where
  | seqR (b : Cd)
  | blk (id : Nat)
  | scp
def ctxOf : Cd → Option (List Fr × Cd)
  | .loop a => some ([], a)
  | .seq a b => (match ctxOf a with
    | some (fs, d) => some (fs ++ [.seqR b], d)
    | none => ctxOf b)
  | .cond _ a b => (match ctxOf a with
    | some r => some r
    | none => ctxOf b)
  | .block id a => (match ctxOf a with
    | some (fs, d) => some (fs ++ [.blk id], d)
    | none => none)
  | .scope a => (match ctxOf a with
    | some (fs, d) => some (fs ++ [.scp], d)
    | none => none)
  | _ => none
def loopOf (c : Cd) : Cd := match ctxOf c with
  | some (_, d) => d
  | none => .skip
def frOf (c : Cd) : List Fr := match ctxOf c with
  | some (fs, _) => fs
  | none => []
section
variable (F : Fns) (tt : Nat → Option TI)
variable (callK : FuncId → List S → List Ob → (S → List Ob → Prop) → Prop)
variable (loopK : Nat → Cd → St → (X → St → Prop) → Prop) (n0 : Nat)
noncomputable def plug : List Fr → (X → St → Prop) → X → St → Prop
  | [], K => K
  | .seqR b :: fs, K => fun x st => (match x with
    | .normal => exec F tt callK loopK n0 b st (plug fs K)
    | x => plug fs K x st)
  | .blk id :: fs, K => fun x st => (match x with
    | .exit i => if i = id then plug fs K .normal st else plug fs K (.exit i) st
    | x => plug fs K x st)
  | .scp :: fs, K => fun x st => (match x with
    | .goto _ => False
    | x => plug fs K x st)
/-- Behind a function's code. -/
noncomputable def retX (rs : List ResultVar) (K : S → List Ob → Prop) : X → St → Prop := fun x st => match x with
  | .normal => retS F tt rs st K
  | .ret => retS F tt rs st K
  | _ => False
end
end Go.SX
