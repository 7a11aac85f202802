/- SX: contracts by templates; a loop cut into rounds. -/
import Derived.Test.YtbkegflipglioaaGreatSX18
set_option maxRecDepth 20000
namespace Go.SX
open Go.RowKit
/-- What is open in a contract, in order. -/
structure Acc where
  i : List Int
  b : List Bool
  t : List (List UInt8)
  r : List (List S)
/-- What a contract's value looks like. -/
inductive Tm where
  | ptr (i : Nat)
  | mp (i : Nat)
  | eqI (k : IntKind) (n : Int)
  | int (k : IntKind)
  | lit (k : IntKind)
  | bool
  | str
  | sli (i : Nat)
  | same (s : S)
  | agg (l : List Tm)
  | aggV
  | ifc (t : TypeId) (x : Tm)
inductive OTm where
  | cells (T : TypeId) (l : List Tm)
  | cellsV (T : TypeId)
  | row (T : TypeId) (sz n : Nat) (l : List Tm)
  | rowV (T : TypeId) (sz : Nat)
  | mapo (ks vs : List Tm)
  | any
def isL0 : NN → Bool
  | .l n => Nat.beq n 0
  | .v _ => false
mutual
def decT : Tm → S → Acc → (Acc → Prop) → Prop → Prop
  | .ptr i, s, a, K, f => (match s with
    | .ptr j o => (match Nat.beq i j, isL0 o with
      | true, true => K a
      | _, _ => f)
    | _ => f)
  | .mp i, s, a, K, f => (match s with
    | .mp j => (match Nat.beq i j with
      | true => K a
      | false => f)
    | _ => f)
  | .eqI k n, s, a, K, f => (match s with
    | .il k' m => (match (if k = k' then true else false) with
      | true => m = n ∧ K a
      | false => f)
    | .iv k' m => (match (if k = k' then true else false) with
      | true => m = n ∧ K a
      | false => f)
    | _ => f)
  | .int k, s, a, K, f => (match s with
    | .il k' n => (match (if k = k' then true else false) with
      | true => K ⟨n :: a.i, a.b, a.t, a.r⟩
      | false => f)
    | .iv k' n => (match (if k = k' then true else false) with
      | true => K ⟨n :: a.i, a.b, a.t, a.r⟩
      | false => f)
    | _ => f)
  | .lit k, s, a, K, f => (match s with
    | .il k' n => (match (if k = k' then true else false) with
      | true => K ⟨n :: a.i, a.b, a.t, a.r⟩
      | false => f)
    | _ => f)
  | .bool, s, a, K, f => (match s with
    | .bl x => K ⟨a.i, x :: a.b, a.t, a.r⟩
    | .bv x => K ⟨a.i, x :: a.b, a.t, a.r⟩
    | _ => f)
  | .str, s, a, K, f => (match s with
    | .tl x => K ⟨a.i, a.b, x :: a.t, a.r⟩
    | .tv x => K ⟨a.i, a.b, x :: a.t, a.r⟩
    | _ => f)
  | .sli i, s, a, K, f => (match s with
    | .sli j o n c z => (match Nat.beq i j, isL0 o, (match c with | .rest k => isL0 k | .lit _ => false), z with
      | true, true, true, false => K ⟨Int.ofNat n.val :: a.i, a.b, a.t, a.r⟩
      | _, _, _, _ => f)
    | _ => f)
  | .same x, s, a, K, f => (match S.same s x with
    | true => K a
    | false => f)
  | .agg l, s, a, K, f => (match s with
    | .agg cs => decL l cs a K f
    | _ => f)
  | .aggV, s, a, K, f => (match s with
    | .agg cs => K ⟨a.i, a.b, a.t, cs :: a.r⟩
    | _ => f)
  | .ifc t x, s, a, K, f => (match s with
    | .ifc t' y => (match Nat.beq t t' with
      | true => decT x y a K f
      | false => f)
    | _ => f)
/-- From the last to the first: what is open stands in order. -/
def decL : List Tm → List S → Acc → (Acc → Prop) → Prop → Prop
  | [], ss, a, K, f => (match ss with
    | [] => K a
    | _ :: _ => f)
  | t :: ts, ss, a, K, f => (match ss with
    | [] => f
    | s :: ss => decL ts ss a (fun a => decT t s a K f) f)
end
def decO (o : OTm) (x : Ob) (a : Acc) (K : Acc → Prop) (f : Prop) : Prop := match o with
  | .cells T l => (match x with
    | .cells T' cs => (match Nat.beq T T' with
      | true => decL l cs a K f
      | false => f)
    | _ => f)
  | .cellsV T => (match x with
    | .cells T' cs => (match Nat.beq T T' with
      | true => K ⟨a.i, a.b, a.t, cs :: a.r⟩
      | false => f)
    | _ => f)
  | .row T sz n l => (match x with
    | .row T' sz' m cs => (match Nat.beq T T', Nat.beq sz sz', m with
      | true, true, .l m => (match Nat.beq n m with
        | true => decL l cs a K f
        | false => f)
      | _, _, _ => f)
    | _ => f)
  | .rowV T sz => (match x with
    | .row T' sz' m cs => (match Nat.beq T T', Nat.beq sz sz' with
      | true, true => K ⟨Int.ofNat m.val :: a.i, a.b, a.t, cs :: a.r⟩
      | _, _ => f)
    | _ => f)
  | .mapo ks vs => (match x with
    | .mapo ks' vs' => decL vs vs' a (fun a => decL ks ks' a K f) f
    | _ => f)
  | .any => K a
def decH : List OTm → List Ob → Acc → (Acc → Prop) → Prop → Prop
  | [], [], a, K, _ => K a
  | o :: os, x :: xs, a, K, f => decH os xs a (fun a => decO o x a K f) f
  | _, _, _, _, f => f
/-! What is said by a template. -/
mutual
def instT : Tm → Acc → S × Acc
  | .ptr i, a => (.ptr i (.l 0), a)
  | .mp i, a => (.mp i, a)
  | .eqI k n, a => (.iv k n, a)
  | .int k, a => (match a with
    | ⟨n :: i, b, t, r⟩ => (.iv k n, ⟨i, b, t, r⟩)
    | a => (.junk, a))
  | .lit k, a => (match a with
    | ⟨n :: i, b, t, r⟩ => (.il k n, ⟨i, b, t, r⟩)
    | a => (.junk, a))
  | .bool, a => (match a with
    | ⟨i, x :: b, t, r⟩ => (.bv x, ⟨i, b, t, r⟩)
    | a => (.junk, a))
  | .str, a => (match a with
    | ⟨i, b, x :: t, r⟩ => (.tv x, ⟨i, b, t, r⟩)
    | a => (.junk, a))
  | .sli j, a => (match a with
    | ⟨n :: i, b, t, r⟩ => (.sli j (.l 0) (.v n.toNat) (.rest (.l 0)) false, ⟨i, b, t, r⟩)
    | a => (.junk, a))
  | .same x, a => (x, a)
  | .agg l, a => (.agg (instL l a).1, (instL l a).2)
  | .aggV, a => (match a with
    | ⟨i, b, t, cs :: r⟩ => (.agg cs, ⟨i, b, t, r⟩)
    | a => (.junk, a))
  | .ifc t x, a => (.ifc t (instT x a).1, (instT x a).2)
def instL : List Tm → Acc → List S × Acc
  | [], a => ([], a)
  | t :: ts, a => ((instT t a).1 :: (instL ts (instT t a).2).1, (instL ts (instT t a).2).2)
end
def instO : OTm → Acc → Ob × Acc
  | .cells T l, a => (.cells T (instL l a).1, (instL l a).2)
  | .cellsV T, a => (match a with
    | ⟨i, b, t, cs :: r⟩ => (.cells T cs, ⟨i, b, t, r⟩)
    | a => (.dead, a))
  | .row T sz n l, a => (.row T sz (.l n) (instL l a).1, (instL l a).2)
  | .rowV T sz, a => (match a with
    | ⟨n :: i, b, t, cs :: r⟩ => (.row T sz (.v n.toNat) cs, ⟨i, b, t, r⟩)
    | a => (.dead, a))
  | .mapo ks vs, a => (.mapo (instL ks a).1 (instL vs (instL ks a).2).1, (instL vs (instL ks a).2).2)
  | .any, a => (.dead, a)
def instH : List OTm → Acc → List Ob × Acc
  | [], a => ([], a)
  | o :: os, a => ((instO o a).1 :: (instH os (instO o a).2).1, (instH os (instO o a).2).2)
theorem eqKB {k k' : IntKind} (h : (if k = k' then true else false) = true) : k = k' := by
  by_cases hk : k = k'
  · exact hk
  · rw [if_neg hk] at h; cases h
mutual
theorem decT_ok : ∀ (t : Tm) (s : S) (a : Acc) {K : Acc → Prop} {f : Prop}, decT t s a K f → f ∨ ∃ a', K a' ∧ (instT t a').2 = a ∧ ∀ m ν v, s.ok m ν v → (instT t a').1.ok m ν v
  | .ptr i, s, a, K, f, h => by
    unfold decT at h
    split at h
    case h_2 => exact Or.inl h
    rename_i j o
    split at h
    case h_2 => exact Or.inl h
    rename_i h1 h2
    have h1 := Nat.eq_of_beq_eq_true h1
    subst h1
    refine Or.inr ⟨a, h, rfl, fun m ν v hv => ?_⟩
    cases o with
    | l n => have h2 := Nat.eq_of_beq_eq_true h2; subst h2; exact hv
    | v n => cases h2
  | .mp i, s, a, K, f, h => by
    unfold decT at h
    split at h
    case h_2 => exact Or.inl h
    split at h
    case h_2 => exact Or.inl h
    rename_i h1
    have h1 := Nat.eq_of_beq_eq_true h1
    subst h1
    exact Or.inr ⟨a, h, rfl, fun m ν v hv => hv⟩
  | .eqI k n, s, a, K, f, h => by
    unfold decT at h
    split at h
    case h_3 => exact Or.inl h
    all_goals
      split at h
      case h_2 => exact Or.inl h
      rename_i hk
      have hk := eqKB hk
      subst hk
      obtain ⟨rfl, h⟩ := h
      exact Or.inr ⟨a, h, rfl, fun m ν v hv => by simpa only [instT, S.ok] using hv⟩
  | .int k, s, a, K, f, h => by
    unfold decT at h
    split at h
    case h_3 => exact Or.inl h
    all_goals
      split at h
      case h_2 => exact Or.inl h
      rename_i hk
      have hk := eqKB hk
      subst hk
      exact Or.inr ⟨_, h, rfl, fun m ν v hv => by simpa only [instT, S.ok] using hv⟩
  | .lit k, s, a, K, f, h => by
    unfold decT at h
    split at h
    case h_2 => exact Or.inl h
    split at h
    case h_2 => exact Or.inl h
    rename_i hk
    have hk := eqKB hk
    subst hk
    exact Or.inr ⟨_, h, rfl, fun m ν v hv => by simpa only [instT, S.ok] using hv⟩
  | .bool, s, a, K, f, h => by
    unfold decT at h
    split at h
    case h_3 => exact Or.inl h
    all_goals exact Or.inr ⟨_, h, rfl, fun m ν v hv => by simpa only [instT, S.ok] using hv⟩
  | .str, s, a, K, f, h => by
    unfold decT at h
    split at h
    case h_3 => exact Or.inl h
    all_goals exact Or.inr ⟨_, h, rfl, fun m ν v hv => by simpa only [instT, S.ok] using hv⟩
  | .sli i, s, a, K, f, h => by
    unfold decT at h
    split at h
    case h_2 => exact Or.inl h
    rename_i j o n c z
    split at h
    case h_2 => exact Or.inl h
    rename_i h1 h2 h3
    have h1 := Nat.eq_of_beq_eq_true h1
    subst h1
    refine Or.inr ⟨_, h, rfl, fun m ν v hv => ?_⟩
    cases o with
    | v n => cases h2
    | l o =>
      have h2 := Nat.eq_of_beq_eq_true h2
      subst h2
      cases c with
      | lit c => cases h3
      | rest c =>
        cases c with
        | v n => cases h3
        | l c =>
          have h3 := Nat.eq_of_beq_eq_true h3
          subst h3
          simp only [instT, S.ok, NN.val, Int.ofNat_eq_natCast, Int.toNat_natCast] at hv ⊢
          exact hv
  | .same x, s, a, K, f, h => by
    unfold decT at h
    split at h
    case h_2 => exact Or.inl h
    rename_i hs
    have := same_eq _ _ hs
    subst this
    exact Or.inr ⟨a, h, rfl, fun m ν v hv => hv⟩
  | .agg l, s, a, K, f, h => by
    unfold decT at h
    split at h
    case h_2 => exact Or.inl h
    rcases decL_ok l _ a h with h | ⟨a', h1, h2, h3⟩
    · exact Or.inl h
    · refine Or.inr ⟨a', h1, by simpa only [instT] using h2, fun m ν v hv => ?_⟩
      simp only [instT, S.ok] at hv ⊢
      obtain ⟨vs, g1, g2⟩ := hv
      exact ⟨vs, g1, h3 _ _ _ g2⟩
  | .aggV, s, a, K, f, h => by
    unfold decT at h
    split at h
    case h_2 => exact Or.inl h
    exact Or.inr ⟨_, h, rfl, fun m ν v hv => by simpa only [instT, S.ok] using hv⟩
  | .ifc t x, s, a, K, f, h => by
    unfold decT at h
    split at h
    case h_2 => exact Or.inl h
    split at h
    case h_2 => exact Or.inl h
    rename_i ht
    have ht := Nat.eq_of_beq_eq_true ht
    subst ht
    rcases decT_ok x _ a h with h | ⟨a', h1, h2, h3⟩
    · exact Or.inl h
    · refine Or.inr ⟨a', h1, by simpa only [instT] using h2, fun m ν v hv => ?_⟩
      simp only [instT, S.ok] at hv ⊢
      obtain ⟨u, g1, g2⟩ := hv
      exact ⟨u, g1, h3 _ _ _ g2⟩
theorem decL_ok : ∀ (ts : List Tm) (ss : List S) (a : Acc) {K : Acc → Prop} {f : Prop}, decL ts ss a K f → f ∨ ∃ a', K a' ∧ (instL ts a').2 = a ∧ ∀ m ν vs, S.oks m ν ss vs → S.oks m ν (instL ts a').1 vs
  | [], ss, a, K, f, h => by
    unfold decL at h
    split at h
    case h_2 => exact Or.inl h
    exact Or.inr ⟨a, h, rfl, fun m ν v hv => hv⟩
  | t :: ts, ss, a, K, f, h => by
    unfold decL at h
    split at h
    · exact Or.inl h
    · rename_i s ss
      rcases decL_ok ts ss a h with h | ⟨a1, h1, h2, h3⟩
      · exact Or.inl h
      · rcases decT_ok t s a1 h1 with h | ⟨a2, k1, k2, k3⟩
        · exact Or.inl h
        · refine Or.inr ⟨a2, k1, by simp only [instL, k2, h2], fun m ν vs hv => ?_⟩
          simp only [instL, S.oks, k2] at hv ⊢
          obtain ⟨v, r, g1, g2, g3⟩ := hv
          exact ⟨v, r, g1, k3 _ _ _ g2, h3 _ _ _ g3⟩
end
/-- What an object says is said by another one. -/
structure WkO (o o' : Ob) : Prop where
  own : o'.own = true → o.own = true
  win : ∀ cs, o' ≠ .win cs
  holds : ∀ m ν e w, o.holds m ν e w → o'.holds m ν e w
theorem decO_ok (o : OTm) (x : Ob) (a : Acc) {K : Acc → Prop} {f : Prop} (h : decO o x a K f) : f ∨ ∃ a', K a' ∧ (instO o a').2 = a ∧ WkO x (instO o a').1 := by
  unfold decO at h
  split at h
  · split at h
    case h_2 => exact Or.inl h
    split at h
    case h_2 => exact Or.inl h
    rename_i hT
    have hT := Nat.eq_of_beq_eq_true hT
    subst hT
    rcases decL_ok _ _ a h with h | ⟨a', h1, h2, h3⟩
    · exact Or.inl h
    · exact Or.inr ⟨a', h1, h2, fun _ => rfl, (fun cs h => by cases h), fun m ν e w hh => by obtain ⟨h0, vs, g1, g2⟩ := hh; exact ⟨h0, vs, h3 _ _ _ g1, g2⟩⟩
  · split at h
    case h_2 => exact Or.inl h
    split at h
    case h_2 => exact Or.inl h
    rename_i hT
    have hT := Nat.eq_of_beq_eq_true hT
    subst hT
    exact Or.inr ⟨_, h, rfl, fun _ => rfl, (fun cs h => by cases h), fun m ν e w hh => hh⟩
  · split at h
    case h_2 => exact Or.inl h
    split at h
    case h_2 => exact Or.inl h
    rename_i hT hz
    have hT := Nat.eq_of_beq_eq_true hT
    have hz := Nat.eq_of_beq_eq_true hz
    subst hT; subst hz
    split at h
    case h_2 => exact Or.inl h
    rename_i hn
    have hn := Nat.eq_of_beq_eq_true hn
    subst hn
    rcases decL_ok _ _ a h with h | ⟨a', h1, h2, h3⟩
    · exact Or.inl h
    · exact Or.inr ⟨a', h1, h2, fun _ => rfl, (fun cs h => by cases h), fun m ν e w hh => by obtain ⟨h0, vs, cur, g1, g2⟩ := hh; exact ⟨h0, vs, cur, h3 _ _ _ g1, g2⟩⟩
  · split at h
    case h_2 => exact Or.inl h
    split at h
    case h_2 => exact Or.inl h
    rename_i hT hz
    have hT := Nat.eq_of_beq_eq_true hT
    have hz := Nat.eq_of_beq_eq_true hz
    subst hT; subst hz
    exact Or.inr ⟨_, h, rfl, fun _ => rfl, (fun cs h => by cases h), fun m ν e w hh => by
      simp only [instO, Ob.holds, NN.val, Int.ofNat_eq_natCast, Int.toNat_natCast] at hh ⊢
      exact hh⟩
  · split at h
    case h_2 => exact Or.inl h
    rcases decL_ok _ _ a h with h | ⟨a1, h1, h2, h3⟩
    · exact Or.inl h
    · rcases decL_ok _ _ a1 h1 with h | ⟨a2, k1, k2, k3⟩
      · exact Or.inl h
      · refine Or.inr ⟨a2, k1, by simp only [instO, k2, h2], fun _ => rfl, (fun cs h => by cases h), fun m ν e w hh => ?_⟩
        simp only [instO, k2]
        obtain ⟨h0, x, y, g1, g2, g3⟩ := hh
        exact ⟨h0, x, y, k3 _ _ _ g1, h3 _ _ _ g2, g3⟩
  · exact Or.inr ⟨a, h, rfl, (fun h => by cases h), (fun cs h => by cases h), fun _ _ _ _ _ => trivial⟩
theorem decH_ok : ∀ (os : List OTm) (xs : List Ob) (a : Acc) {K : Acc → Prop} {f : Prop}, decH os xs a K f → f ∨ ∃ a', K a' ∧ (instH os a').2 = a ∧ (instH os a').1.length = xs.length ∧ ∀ (j : Nat) o', (instH os a').1[j]? = some o' → ∃ o, xs[j]? = some o ∧ WkO o o'
  | [], [], a, K, f, h => Or.inr ⟨a, h, rfl, rfl, fun j o' hj => by simp [instH] at hj⟩
  | [], _ :: _, a, K, f, h => Or.inl h
  | _ :: _, [], a, K, f, h => Or.inl h
  | o :: os, x :: xs, a, K, f, h => by
    unfold decH at h
    rcases decH_ok os xs a h with h | ⟨a1, h1, h2, h3, h4⟩
    · exact Or.inl h
    · rcases decO_ok o x a1 h1 with h | ⟨a2, k1, k2, k3⟩
      · exact Or.inl h
      · refine Or.inr ⟨a2, k1, by simp only [instH, k2, h2], by simp only [instH, k2, List.length_cons, h3], fun j o' hj => ?_⟩
        simp only [instH, k2] at hj
        cases j with
        | zero => simp only [List.getElem?_cons_zero, Option.some.injEq] at hj; subst hj; exact ⟨x, rfl, k3⟩
        | succ j => simp only [List.getElem?_cons_succ] at hj; simpa using h4 j o' hj
theorem CallSem.conv {W : Addr → Nat → Nat → Option (List S)} {P : Program} {f : FuncId} {args args' : List S} {hs hs' : List Ob} {K : S → List Ob → Prop} (hc : CallSem W P f args' hs' K) (ha : ∀ m ν vs, S.oks m ν args vs → S.oks m ν args' vs) (hl : hs'.length = hs.length) (ho : ∀ (j : Nat) o', hs'[j]? = some o' → ∃ o, hs[j]? = some o ∧ WkO o o') : CallSem W P f args hs K := by
  intro w w0 S0 ν vs H hv
  have H' : HOk W w0 S0 ν hs' w := by
    refine ⟨H.upd, fun i o hi => ?_, fun i o hi hown => ?_, fun i j o o' hij hi hj h1 h2 => ?_, fun i cs hi => ?_, H.far⟩
    · obtain ⟨o0, h1, h2⟩ := ho i o hi
      rw [hl]; exact h2.holds _ _ _ _ (H.ob i o0 h1)
    · obtain ⟨o0, h1, h2⟩ := ho i o hi
      exact H.own i o0 h1 (h2.own hown)
    · obtain ⟨o0, g1, g2⟩ := ho i o hi
      obtain ⟨o1, g3, g4⟩ := ho j o' hj
      exact H.apart i j o0 o1 hij g1 g3 (g2.own h1) (g4.own h2)
    · obtain ⟨o0, h1, h2⟩ := ho i _ hi
      exact absurd rfl (h2.win cs)
  have := hc w w0 S0 ν vs H' (by rw [hl]; exact ha _ _ _ hv)
  rw [hl] at this
  exact this
/-- A contract: what its call looks like, and what it comes to. -/
structure Con where
  at' : List Tm
  ht : List OTm
  T : Acc → (S → List Ob → Prop) → Prop
def decA (c : Con) (args : List S) (hs : List Ob) (K : Acc → Prop) (f : Prop) : Prop := decH c.ht hs ⟨[], [], [], []⟩ (fun a => decL c.at' args a K f) f
def Con.ok (W : Addr → Nat → Nat → Option (List S)) (P : Program) (f : FuncId) (c : Con) : Prop := ∀ a K, c.T a K → CallSem W P f (instL c.at' a).1 (instH c.ht (instL c.at' a).2).1 K
def tryC : List Con → List S → List Ob → (S → List Ob → Prop) → Prop
  | [], _, _, _ => False
  | c :: r, args, hs, K => decA c args hs (fun a => c.T a K) (tryC r args hs K)
theorem tryC_ok {W : Addr → Nat → Nat → Option (List S)} {P : Program} {f : FuncId} : ∀ {l : List Con}, (∀ c ∈ l, c.ok W P f) → ∀ args hs K, tryC l args hs K → CallSem W P f args hs K
  | [], _, args, hs, K, h => h.elim
  | c :: r, hl, args, hs, K, h => by
    unfold tryC decA at h
    have rest := tryC_ok (W := W) (P := P) (f := f) (fun c hc => hl c (List.mem_cons_of_mem _ hc)) args hs K
    rcases decH_ok _ _ _ h with h | ⟨a1, h1, h2, h3, h4⟩
    · exact rest h
    · rcases decL_ok _ _ a1 h1 with h | ⟨a2, k1, k2, k3⟩
      · exact rest h
      · refine CallSem.conv (hl c (List.mem_cons_self ..) a2 K k1) k3 ?_ ?_
        · rw [k2]; exact h3
        · rw [k2]; exact h4
/-- What is met by contracts. -/
def stopC (tab : Nat → List Con) (base : CallT) : CallT := fun f args h K => match tab f with
  | [] => base f args h K
  | c :: r => frame (tryC (c :: r)) args h K
theorem stopC_ok {W : Addr → Nat → Nat → Option (List S)} {P : Program} {tab : Nat → List Con} {base : CallT} (ht : ∀ f, ∀ c ∈ tab f, c.ok noW P f) (hb : ∀ f args h K, base f args h K → CallSem W P f args h K) : ∀ f args h K, stopC tab base f args h K → CallSem W P f args h K := by
  intro f args h K hk
  unfold stopC at hk
  split at hk
  · exact hb _ _ _ _ hk
  · rename_i c r hc
    exact frame_ok (tryC_ok (fun c' hc' => ht f c' (by rw [hc]; exact hc'))) hk
def noL : Nat → Option (List (List Nat × St)) := fun _ => none
theorem ite_intro {c A B : Prop} [Decidable c] (h1 : c → A) (h2 : ¬ c → B) : if c then A else B := by
  split
  · exact h1 ‹_›
  · exact h2 ‹_›
/-! Loops, cut. -/
def cutR (ex : Cd → St → (X → St → Prop) → Prop) : List (List Nat × St) → Nat → Cd → St → (X → St → Prop) → Prop
  | [], _, d, st, K => ex d st fun x st' => (match x with
    | .normal => False
    | x => K x st')
  | (ρ, M) :: r, n0, d, st, K => (ex d st fun x st' => (match x with
    | .normal => wkSt n0 ρ st' M True
    | x => K x st')) ∧ cutR ex r n0 d M K
/-- A loop's mark: where its first operation is laid. -/
def keyO : List CO → Nat
  | [] => 0
  | o :: r => (match o.dst with
    | some t => t
    | none => keyO r)
def keyT : DT → Nat
  | .nil => 0
  | .load _ o _ _ r => (match o.dst with | some t => t | none => keyT r)
  | .take _ o r => (match o.dst with | some t => t | none => keyT r)
  | .one _ o _ r => (match o.dst with | some t => t | none => keyT r)
  | .fork a _ => keyT a
def keyS : List DStep → Nat
  | [] => 0
  | .load _ o _ _ :: r => (match o.dst with | some t => t | none => keyS r)
  | .take _ o :: r => (match o.dst with | some t => t | none => keyS r)
  | .one _ o _ :: r => (match o.dst with | some t => t | none => keyS r)
def keyC : Cd → Nat
  | .reg ops => keyO ops
  | .draw ps => keyS ps
  | .drawF p => keyT p
  | .seq a b => (match keyC a with | 0 => keyC b | n + 1 => n + 1)
  | .cond _ a b => (match keyC a with | 0 => keyC b | n + 1 => n + 1)
  | .block _ a => keyC a
  | .loop a => keyC a
  | .scope a => keyC a
  | _ => 0
section
variable (F : Fns) (tt : Nat → Option TI) (ff : Nat → Option FI) (stop : CallT)
/-- A call whose own loops are cut. -/
def callL (L : Nat → Option (List (List Nat × St))) (n : Nat) : CallT := fun f args h K => match ff f with
  | some fi => normL (args ++ List.replicate (fi.ntmps - args.length) .un) fun t => exec F tt (runN F tt ff stop n).1 (fun n0 d st K => match L (keyC d) with
      | some Ms => cutR (fun d st K => exec F tt (runN F tt ff stop n).1 (runN F tt ff stop n).2 n0 d st K) Ms n0 d st K
      | none => (runN F tt ff stop n).2 n0 d st K) h.length fi.body ⟨t, h⟩ fun x st => (match x with
    | .normal => retK F tt fi.res st K
    | .ret => retK F tt fi.res st K
    | _ => False)
  | none => stop f args h K
end
section
variable {W : Addr → Nat → Nat → Option (List S)} {P : Program} {tt : Nat → Option TI}
theorem cutR_ok (hT : TOk P tt) (hm : P.follows .mixedOrders = true) {callK : CallT} {loopK : Nat → Cd → St → (X → St → Prop) → Prop}
    (hcall : ∀ f args h K, callK f args h K → CallSem W P f args h K) (hloop : ∀ n0 d st K, loopK n0 d st K → LoopSem W P n0 d st K) {n0 : Nat} {d : Cd} {K : X → St → Prop} : ∀ (Ms : List (List Nat × St)) (st : St), cutR (fun d st K => exec (std W) tt callK loopK n0 d st K) Ms n0 d st K → LoopSem W P n0 d st K
  | [], st, h => by
    unfold cutR at h
    refine loop_sem fun c hc => ?_
    have hs := exec_sound hT hm hcall hloop n0 c st _ (by rw [hc]; exact h)
    refine hs.mono fun e st' hk => ?_
    cases e with
    | normal => exact hk.elim
    | _ => exact hk
  | (ρ, M) :: r, st, h => by
    unfold cutR at h
    obtain ⟨h1, h2⟩ := h
    refine loop_sem fun c hc => ?_
    have hs := exec_sound hT hm hcall hloop n0 c st _ (by rw [hc]; exact h1)
    refine hs.mono fun e st' hk => ?_
    cases e with
    | normal => exact LoopSem.weak hk (cutR_ok hT hm hcall hloop r M h2)
    | _ => exact hk
theorem callL_ok (hT : TOk P tt) (hm : P.follows .mixedOrders = true) {ff : Nat → Option FI} (hF : FOk P ff) {stop : CallT} (hstop : ∀ f args h K, stop f args h K → CallSem W P f args h K) {L : Nat → Option (List (List Nat × St))} {n : Nat} : ∀ f args h K, callL (std W) tt ff stop L n f args h K → CallSem W P f args h K := by
  intro f args h K hk
  unfold callL at hk
  split at hk
  case h_2 => exact hstop _ _ _ _ hk
  rename_i fi hfi
  simp only [normL_eq, retK_eq] at hk
  obtain ⟨hc, hl⟩ := runN_sound (W := W) hT hm hF hstop n
  refine call_in hT hm hF hc (fun n0 d st K hk => ?_) hfi hk
  split at hk
  · exact cutR_ok hT hm hc hl _ _ hk
  · exact hl _ _ _ _ hk
end
end Go.SX
