/- SX: maps. -/
import Derived.Test.YtbkegflipglioaaGreatSX9
import Derived.MapKept
namespace Go.SX
open Go.RowKit
section
variable {W : Addr → Nat → Nat → Option (List S)}
variable {P : Program} {tt : Nat → Option TI} {w0 w : World} {S0 : List Nat} {ν : Nat → Env} {h : List Ob} {m : Nat}
theorem run_checkFields (hT : TOk P tt) {cs : List S} {vs : List Value} (hc : oks m ν cs vs) (em : Bool) (d : Nat) (w : World) :
    ∀ (fa : List Field), (∀ f ∈ fa, f.name ≠ "_") → flatF tt cs (fa.map fun f => (f.offset, f.type)) = true →
      (forIn fa PUnit.unit (fun f _ => if f.name ≠ "_" then (do
        Instr.checkKey em (d + 1) f.type (← part f.type vs.toArray f.offset)
        pure (ForInStep.yield PUnit.unit)) else pure (ForInStep.yield PUnit.unit)) : Sem PUnit).run P w = .ok PUnit.unit w
  | [], _, _ => by simp
  | f :: fa, hn, h => by
    simp only [List.map_cons, flatF, Bool.and_eq_true] at h
    obtain ⟨h1, h2, h3⟩ := h
    obtain ⟨s, hs⟩ := Option.isSome_iff_exists.1 h2
    obtain ⟨v, hv, hvr⟩ := part_ok hT hs hc
    have ih := run_checkFields hT hc em d w fa (fun g hg => hn g (by simp [hg])) h3
    have hck : (Instr.checkKey em (d + 1) f.type v).run P w = .ok () w := by
      simp only [flatT] at h1
      split at h1
      case h_2 => cases h1
      rename_i u hu
      have hd := (hT _ _ hu).desc
      split at h1
      case h_4 => cases h1
      all_goals
        rename_i hdd
        simp only [hdd] at hd
        simp [Instr.checkKey, run_underlying hd]
    rw [List.forIn_cons]
    simp only [Sem.run_bind, if_pos (hn f (by simp)), hvr, Result.andThen_ok, hck, Sem.run_pure]
    exact ih
theorem run_checkKey_ok (hT : TOk P tt) {kt : TypeId} {k : S} {kv : Value} (hk : keyOk tt kt k = true) (ho : k.ok m ν kv) (em : Bool) (w : World) : (Instr.checkKey em 10000 kt kv).run P w = .ok () w := by
  unfold keyOk at hk
  split at hk
  · rename_i ti cs hti
    split at hk
    case h_2 => cases hk
    rename_i fs hd
    have hdd := (hT kt ti hti).desc
    simp only [hd] at hdd
    obtain ⟨fa, h1, h2, h3, _⟩ := hdd
    simp only [S.ok] at ho
    obtain ⟨vs, rfl, hc⟩ := ho
    have := run_checkFields hT hc em 9998 w fa.toList h3 (by rw [h2]; exact hk)
    rw [Instr.checkKey]
    simp only [Sem.run_bind, run_underlying h1, Result.andThen_ok]
    rw [← Array.forIn_toList, this]
    rfl
  · rename_i ti ik z hti
    split at hk
    case h_2 => cases hk
    rename_i kk hd
    have hdd := (hT kt ti hti).desc
    simp only [hd] at hdd
    rw [Instr.checkKey]
    simp only [Sem.run_bind, run_underlying hdd, Result.andThen_ok]
    rfl
  · cases hk
theorem eqX_int {kt : TypeId} {ti : TI} {kk k0 : IntKind} {z : Int} {x : S} {bb : Bool} (hti : tt kt = some ti) (hd : ti.d = .int kk) (h : eqX (std W) tt kt (.il k0 z) x = some (.bl bb)) : ∃ b, x = .il k0 b ∧ bb = (z == b) := by
  unfold eqX at h
  rw [hti] at h
  simp only [hd] at h
  unfold eqT at h
  cases x <;> simp only [hti, hd, eq1] at h
  case il k' b =>
    split at h
    · rename_i he; subst he; simp only [Option.some.injEq, S.bl.injEq] at h; exact ⟨b, rfl, h.symm⟩
    · cases h
  case iv k' b => split at h <;> cases h
  all_goals cases h
theorem findNow_int {kt : TypeId} {ti : TI} {kk k0 : IntKind} {z : Int} (hti : tt kt = some ti) (hd : ti.d = .int kk) :
    ∀ (ks : List S) (a b : List Value) (n i : Nat) (r : Option Nat), oks m ν ks a → a.length = b.length → findS (std W) tt kt (.il k0 z) ks i = some r →
      ∃ r', Instr.findNow (.int kk) (.int k0 z) (ents a b n) i = some r' ∧ (match r with
        | none => r' = none
        | some j => i ≤ j ∧ ∃ x, b[j - i]? = some x ∧ r' = some (j, x))
  | [], a, b, n, i, r, hks, hl, hf => by
    simp only [S.oks] at hks
    subst hks
    simp only [findS, Option.some.injEq] at hf
    subst hf
    refine ⟨none, ?_, rfl⟩
    cases b <;> simp [ents, Instr.findNow]
  | x :: ks, a, b, n, i, r, hks, hl, hf => by
    simp only [S.oks] at hks
    obtain ⟨v, a', rfl, hx, hr⟩ := hks
    cases b with
    | nil => simp at hl
    | cons y b =>
    simp only [findS] at hf
    split at hf
    · rename_i he
      simp only [Option.some.injEq] at hf
      subst hf
      obtain ⟨q, rfl, hq⟩ := eqX_int hti hd he
      simp only [S.ok] at hx
      subst hx
      exact ⟨some (i, y), by simp [ents, Instr.findNow, Instr.sameNow, ← hq], Nat.le_refl _, y, by simp, rfl⟩
    · rename_i he
      obtain ⟨q, rfl, hq⟩ := eqX_int hti hd he
      simp only [S.ok] at hx
      subst hx
      obtain ⟨r', h3, h4⟩ := findNow_int hti hd ks a' b (n + 1) (i + 1) r hr (by simpa using hl) hf
      refine ⟨r', by simp [ents, Instr.findNow, Instr.sameNow, ← hq, h3], ?_⟩
      cases r with
      | none => exact h4
      | some j =>
        obtain ⟨h5, u, h6, h7⟩ := h4
        refine ⟨by omega, u, ?_, h7⟩
        rw [show j - i = (j - (i + 1)) + 1 by omega]
        simpa using h6
    · cases hf
theorem findNow_struct {d : TypeDesc} {k : Value} (hd : ∀ a b, Instr.sameNow d a b = none) : ∀ es i, Instr.findNow d k es i = match es with | [] => some none | _ :: _ => none
  | [], _ => rfl
  | e :: es, i => by simp [Instr.findNow, hd]
theorem ents_nil_or (a b : List Value) (n : Nat) (h : a.length = b.length) : ents a b n = [] ↔ a = [] := by
  cases a <;> cases b <;> simp_all [ents]
theorem run_findAsking (hT : TOk P tt) {kt : TypeId} {k : S} {kv : Value} (ho : k.ok m ν kv) (w : World) :
    ∀ (ks : List S) (a b : List Value) (n i : Nat) (r : Option Nat), oks m ν ks a → a.length = b.length → findS (std W) tt kt k ks i = some r →
      ∃ r', (Instr.findAsking kt kv (ents a b n) i).run P w = .ok r' w ∧ (match r with
        | none => r' = none
        | some j => i ≤ j ∧ ∃ x, b[j - i]? = some x ∧ r' = some (j, x))
  | [], a, b, n, i, r, hks, hl, hf => by
    simp only [S.oks] at hks
    subst hks
    simp only [findS, Option.some.injEq] at hf
    subst hf
    refine ⟨none, ?_, rfl⟩
    cases b <;> simp [ents, Instr.findAsking]
  | x :: ks, a, b, n, i, r, hks, hl, hf => by
    simp only [S.oks] at hks
    obtain ⟨v, a', rfl, hx, hr⟩ := hks
    cases b with
    | nil => simp at hl
    | cons y b =>
    simp only [findS] at hf
    simp only [ents, Instr.findAsking]
    split at hf
    · rename_i he
      simp only [Option.some.injEq] at hf
      subst hf
      obtain ⟨bb, h1, h2⟩ := eqX_ok hT he ho hx
      simp only [S.ok, Value.bool.injEq] at h1
      subst h1
      exact ⟨some (i, y), by simp [h2], Nat.le_refl _, y, by simp, rfl⟩
    · rename_i he
      obtain ⟨bb, h1, h2⟩ := eqX_ok hT he ho hx
      simp only [S.ok, Value.bool.injEq] at h1
      subst h1
      obtain ⟨r', h3, h4⟩ := run_findAsking hT ho w ks a' b (n + 1) (i + 1) r hr (by simpa using hl) hf
      refine ⟨r', by simp [h2, h3], ?_⟩
      cases r with
      | none => exact h4
      | some j =>
        obtain ⟨h5, u, h6, h7⟩ := h4
        refine ⟨by omega, u, ?_, h7⟩
        rw [show j - i = (j - (i + 1)) + 1 by omega]
        simpa using h6
    · cases hf
def FoundAt (b : List Value) : Option Nat → Option (Nat × Value) → Prop
  | none, r' => r' = none
  | some j, r' => ∃ x, b[j]? = some x ∧ r' = some (j, x)
theorem run_findKey_ok (hT : TOk P tt) {kt : TypeId} {k : S} {kv : Value} (hk : keyOk tt kt k = true) (ho : k.ok m ν kv) (w : World) {ks : List S} {a b : List Value} {r : Option Nat} (hks : oks m ν ks a) (hl : a.length = b.length) (hf : findS (std W) tt kt k ks 0 = some r) :
    ∃ r', (Instr.findKey kt kv (ents a b 0)).run P w = .ok r' w ∧ FoundAt b r r' := by
  have fin : ∀ r', (match r with
      | none => r' = none
      | some j => 0 ≤ j ∧ ∃ x, b[j - 0]? = some x ∧ r' = some (j, x)) → FoundAt b r r' := by
    intro r' h2
    cases r with
    | none => exact h2
    | some j => obtain ⟨_, x, h3, h4⟩ := h2; exact ⟨x, by simpa using h3, h4⟩
  have hs : (∃ fa, P.underlying kt = some (.struct fa)) ∨ (∃ ti kk k0 z, tt kt = some ti ∧ ti.d = .int kk ∧ P.underlying kt = some (.int kk) ∧ k = .il k0 z ∧ kv = .int k0 z) := by
    unfold keyOk at hk
    split at hk
    · rename_i ti cs hti
      split at hk
      case h_2 => cases hk
      rename_i fs hd
      have hdd := (hT kt ti hti).desc
      simp only [hd] at hdd
      obtain ⟨fa, h1, _⟩ := hdd
      exact Or.inl ⟨fa, h1⟩
    · rename_i ti k0 z hti
      split at hk
      case h_2 => cases hk
      rename_i kk hd
      have hdd := (hT kt ti hti).desc
      simp only [hd] at hdd
      simp only [S.ok] at ho
      exact Or.inr ⟨ti, kk, k0, z, hti, hd, hdd, rfl, ho⟩
    · cases hk
  rcases hs with ⟨fa, hs⟩ | ⟨ti, kk, k0, z, hti, hd, hs, rfl, rfl⟩
  case inr =>
    obtain ⟨r', h1, h2⟩ := findNow_int (W := W) hti hd ks a b 0 0 r hks hl hf
    refine ⟨r', ?_, fin r' h2⟩
    unfold Instr.findKey
    simp only [Sem.run_bind, run_underlying hs, Result.andThen_ok, h1, Sem.run_pure]
  obtain ⟨r', h1, h2⟩ := run_findAsking (W := W) hT ho w ks a b 0 0 r hks hl hf
  clear hf
  refine ⟨r', ?_, fin r' h2⟩
  unfold Instr.findKey
  simp only [Sem.run_bind, run_underlying hs, Result.andThen_ok]
  rw [findNow_struct (fun _ _ => rfl)]
  cases he : ents a b 0 with
  | nil =>
    rw [he] at h1
    simp only [Instr.findAsking, Sem.run_pure] at h1
    simpa using h1
  | cons e es =>
    rw [he] at h1
    simpa using h1
theorem mapOf_ok (H : HOk W w0 S0 ν h w) {x : S} {id : Nat} {ks vs : List S} {v : Value} (hm : mapOf x h = some (id, ks, vs)) (hx : x.ok h.length ν v) :
    x = .mp id ∧ v = .map (some (ν id).blk) ∧ h[id]? = some (.mapo ks vs) ∧ ∃ a b, oks h.length ν ks a ∧ oks h.length ν vs b ∧ a.length = b.length ∧ w.heap[(ν id).blk]? = some (.map (ents a b 0).toArray a.length) := by
  unfold mapOf at hm
  split at hm
  case h_2 => cases hm
  rename_i id'
  split at hm
  case h_2 => cases hm
  rename_i ks' vs' hg
  simp only [Option.some.injEq, Prod.mk.injEq] at hm
  obtain ⟨rfl, rfl, rfl⟩ := hm
  simp only [S.ok] at hx
  obtain ⟨_, rfl⟩ := hx
  have ho : h[id']? = some (.mapo ks' vs') := by
    rcases getO_spec h id' with ho | ho
    · rw [ho, hg]
    · rw [hg] at ho; cases ho
  have hob := H.ob _ _ ho
  obtain ⟨_, a, b, h1, h2, h3, h4⟩ := hob
  exact ⟨rfl, rfl, ho, a, b, h1, h2, h3, h4⟩
theorem ents_push : ∀ (a b : List Value) (n : Nat) (k v : Value), a.length = b.length → ents (a ++ [k]) (b ++ [v]) n = ents a b n ++ [⟨k, v, n + a.length⟩]
  | [], [], n, k, v, _ => by simp [ents]
  | x :: a, y :: b, n, k, v, h => by
    simp only [List.cons_append, ents, List.length_cons]
    rw [ents_push a b (n + 1) k v (by simpa using h)]
    congr 4
    omega
  | [], _ :: _, _, _, _, h => by simp at h
  | _ :: _, [], _, _, _, h => by simp at h
theorem ents_len : ∀ (a b : List Value) (n : Nat), a.length = b.length → (ents a b n).length = a.length
  | [], [], _, _ => rfl
  | x :: a, y :: b, n, h => by simp [ents, ents_len a b (n + 1) (by simpa using h)]
  | [], _ :: _, _, h => by simp at h
  | _ :: _, [], _, h => by simp at h
theorem makeMap_sound (H : HOk W w0 S0 ν h w) : HOk W w0 S0 (updE ν h.length ⟨w.heap.size, 0, 0⟩) (h ++ [.mapo [] []]) (w.alloc (.map #[] 0)) := by
  refine (H.step (S1 := []) ((Upd.refl _ _).alloc _) (by simp)).push (.mapo [] []) ⟨w.heap.size, 0, 0⟩ rfl ⟨rfl, [], [], oks_nil, oks_nil, rfl, ?_⟩ (Or.inr H.size) fun i o hi ho => ?_
  · show (w.heap.push _)[w.heap.size]? = _
    simp [ents]
  · exact Nat.ne_of_lt (Ob.holds_lt (H.ob i o hi) ho)
theorem mapUpdS_sound (hT : TOk P tt) (H : HOk W w0 S0 ν h w) {t : TypeId} {x k s : S} {xv kv sv : Value} {h' : List Ob} (hs : mapUpdS (std W) tt t x k s h = some h') (hx : x.ok h.length ν xv) (hk : k.ok h.length ν kv) (hv : s.ok h.length ν sv) :
    ∃ w', (Instr.mapUpdate t xv kv sv).run P w = .ok () w' ∧ HOk W w0 S0 ν h' w' ∧ h'.length = h.length := by
  unfold mapUpdS at hs
  split at hs
  case h_2 => cases hs
  rename_i ti hti
  split at hs
  case h_2 => cases hs
  rename_i kt et id ks vs hd hm
  split at hs
  case isFalse => cases hs
  rename_i hko
  split at hs
  case h_2 => cases hs
  rename_i hf
  simp only [Option.some.injEq] at hs
  subst hs
  have hdd := (hT t ti hti).desc
  simp only [hd] at hdd
  obtain ⟨rfl, rfl, ho, a, b, h1, h2, h3, h4⟩ := mapOf_ok H hm hx
  obtain ⟨r', h5, h6⟩ := run_findKey_ok hT hko hk w h1 h3 hf
  simp only [FoundAt] at h6
  subst h6
  rw [setO_eq]
  refine ⟨{ w with heap := w.heap.setIfInBounds (ν id).blk (.map ((ents a b 0).toArray.push { key := kv, val := sv, born := a.length }) (a.length + 1)) }, ?_, ?_, by simp⟩
  · simp only [Instr.mapUpdate, Sem.run_bind, run_underlying hdd, Result.andThen_ok, MapKept.run_getObj_map h4, run_checkKey_ok hT hko hk, h5, MapKept.run_setObj_map _ h4]
  · have hlt := lt_of_blk h4
    refine H.put (.mapo (ks ++ [k]) (vs ++ [s])) ho rfl rfl ⟨rfl, rfl, rfl, by simp, fun j hj hn => ?_⟩ ?_
    · have : (ν id).blk ≠ j := fun he => hn (by simp [he])
      simp [Array.getElem?_setIfInBounds_ne this]
    · have hb := (H.ob id _ ho).1
      refine ⟨hb, a ++ [kv], b ++ [sv], oks_append h1 (oks_cons hk oks_nil), oks_append h2 (oks_cons hv oks_nil), by simp [h3], ?_⟩
      rw [ents_push a b 0 kv sv h3]
      simp [hlt]
theorem lookS_sound (hT : TOk P tt) (H : HOk W w0 S0 ν h w) {t : TypeId} {x k s : S} {xv kv : Value} {bb : Bool} (hs : lookS (std W) tt t x k h = some (s, bb)) (hx : x.ok h.length ν xv) (hk : k.ok h.length ν kv) :
    ∃ v, s.ok h.length ν v ∧ (Instr.lookup t xv kv false).run P w = .ok v w ∧ (Instr.lookup t xv kv true).run P w = .ok (.tuple #[v, .bool bb]) w := by
  unfold lookS at hs
  split at hs
  case h_2 => cases hs
  rename_i ti hti
  split at hs
  case h_2 => cases hs
  rename_i kt et id ks vs hd hm
  split at hs
  case isFalse => cases hs
  rename_i hko
  have hdd := (hT t ti hti).desc
  simp only [hd] at hdd
  obtain ⟨rfl, rfl, ho, a, b, h1, h2, h3, h4⟩ := mapOf_ok H hm hx
  split at hs
  case h_3 => cases hs
  · rename_i j hf
    simp only [Option.some.injEq, Prod.mk.injEq] at hs
    obtain ⟨rfl, rfl⟩ := hs
    obtain ⟨r', h5, u, h6, rfl⟩ := run_findKey_ok hT hko hk w h1 h3 hf
    have h7 := getT_ok j h2
    have h8 : b.getD j undef = u := by rw [List.getD_eq_getElem?_getD, h6]; rfl
    rw [h8] at h7
    refine ⟨u, h7, ?_, ?_⟩
    · simp only [Instr.lookup, Sem.run_bind, run_underlying hdd, Result.andThen_ok, MapKept.run_getObj_map h4, Sem.run_pure, run_checkKey_ok hT hko hk, h5, Bool.false_eq_true, if_false]
    · simp only [Instr.lookup, Sem.run_bind, run_underlying hdd, Result.andThen_ok, MapKept.run_getObj_map h4, Sem.run_pure, run_checkKey_ok hT hko hk, h5, if_true]
  · rename_i hf
    split at hs
    case h_2 => cases hs
    rename_i te hte
    simp only [Option.some.injEq, Prod.mk.injEq] at hs
    obtain ⟨rfl, rfl⟩ := hs
    obtain ⟨r', h5, h6⟩ := run_findKey_ok hT hko hk w h1 h3 hf
    simp only [FoundAt] at h6
    subst h6
    obtain ⟨z, zs, g1, g2, g3⟩ := run_zero2 (hT et te hte)
    refine ⟨z, ?_, ?_, ?_⟩
    · unfold zeroS
      cases hag : te.agg with
      | true =>
        rw [hag] at g1
        simp only at g1
        subst g1
        simp only [S.ok]
        exact ⟨zs, rfl, g2 _ _⟩
      | false =>
        rw [hag] at g1
        simp only at g1
        subst g1
        have := getT_ok 0 (g2 h.length ν)
        simpa using this
    · simp only [Instr.lookup, Sem.run_bind, run_underlying hdd, Result.andThen_ok, MapKept.run_getObj_map h4, Sem.run_pure, run_checkKey_ok hT hko hk, h5, g3, Bool.false_eq_true, if_false]
    · simp only [Instr.lookup, Sem.run_bind, run_underlying hdd, Result.andThen_ok, MapKept.run_getObj_map h4, Sem.run_pure, run_checkKey_ok hT hko hk, h5, g3, if_true]
theorem eqX_il {kt : TypeId} {ti : TI} {kk k0 : IntKind} {z b : Int} (hti : tt kt = some ti) (hd : ti.d = .int kk) : eqX (std W) tt kt (.il k0 z) (.il k0 b) = some (.bl (z == b)) := by
  unfold eqX
  rw [hti]
  simp only [hd]
  unfold eqT
  simp only [hti, hd, eq1, if_true]
theorem lookK_sound (hT : TOk P tt) (H : HOk W w0 S0 ν h w) {t : TypeId} {x k : S} {xv kv : Value} {K : S → Bool → Prop} (hs : lookK (std W) tt t x k h K) (hx : x.ok h.length ν xv) (hk : k.ok h.length ν kv) :
    ∃ s bb, K s bb ∧ ∃ v, s.ok h.length ν v ∧ (Instr.lookup t xv kv false).run P w = .ok v w ∧ (Instr.lookup t xv kv true).run P w = .ok (.tuple #[v, .bool bb]) w := by
  unfold lookK at hs
  split at hs
  · rename_i k0 z
    have hk' : (S.il k0 z).ok h.length ν kv := by simpa only [S.ok] using hk
    split at hs
    case h_2 => exact hs.elim
    rename_i ti hti
    split at hs
    case h_2 => exact hs.elim
    rename_i kt et id ks vs hd hm
    split at hs
    case h_2 => exact hs.elim
    rename_i te hko hte
    have hkt : ∃ ti' kk, tt kt = some ti' ∧ ti'.d = .int kk := by
      unfold keyOk at hko
      split at hko
      · rename_i heq; cases heq
      · rename_i ti' _ _ h1 _
        split at hko
        · rename_i kk hdk; exact ⟨ti', kk, h1, hdk⟩
        · cases hko
      · cases hko
    obtain ⟨ti', kk, hkt, hdk⟩ := hkt
    have key : ∀ (r : List S) (i : Nat), findS (std W) tt kt (.il k0 z) ks 0 = findS (std W) tt kt (.il k0 z) r i → lookF (std W) tt t x k0 z h K te r → ∃ s bb, K s bb ∧ lookS (std W) tt t x (.il k0 z) h = some (s, bb) := by
      intro r
      induction r with
      | nil =>
        intro i hf hl
        refine ⟨_, _, hl, ?_⟩
        unfold lookS
        simp only [hti, hd, hm, hko, if_true, hf, findS, hte]
      | cons y r ih =>
        intro i hf hl
        unfold lookF at hl
        split at hl
        case h_2 => exact hl.elim
        rename_i k1 a
        split at hl
        case h_2 => exact hl.elim
        rename_i hkk
        by_cases hkk' : k0 = k1
        case neg => rw [if_neg hkk'] at hkk; cases hkk
        subst hkk'
        split at hl
        · rename_i hz
          have hz : stdB .eq z a = true := hz
          simp only [stdB, beq_iff_eq] at hz
          subst hz
          split at hl
          · rename_i v b hv; exact ⟨v, b, hl, hv⟩
          · exact hl.elim
        · rename_i hz
          have hz : ¬ stdB .eq z a = true := hz
          simp only [stdB, beq_iff_eq] at hz
          refine ih (i + 1) ?_ hl
          rw [hf]
          simp only [findS, eqX_il hkt hdk]
          have : (z == a) = false := by simpa using hz
          rw [this]
    obtain ⟨s, bb, h1, h2⟩ := key ks 0 rfl hs
    exact ⟨s, bb, h1, lookS_sound hT H h2 hx hk'⟩
  · split at hs
    · rename_i v b hv
      exact ⟨v, b, hs, lookS_sound hT H hv hx hk⟩
    · exact hs.elim
theorem mapLenS_sound (hT : TOk P tt) (H : HOk W w0 S0 ν h w) {t : TypeId} {x s : S} {xv : Value} {ty : TypeId} (hs : mapLenS tt t x h = some s) (hx : x.ok h.length ν xv) :
    ∃ v, s.ok h.length ν v ∧ (Builtin.len_ #[t] ty #[xv]).run P w = .ok v w := by
  unfold mapLenS at hs
  split at hs
  case h_2 => cases hs
  rename_i ti hti
  split at hs
  case h_2 => cases hs
  rename_i kt et id ks vs hd hm
  simp only [Option.some.injEq] at hs
  subst hs
  have hdd := (hT t ti hti).desc
  simp only [hd] at hdd
  obtain ⟨rfl, rfl, ho, a, b, h1, h2, h3, h4⟩ := mapOf_ok H hm hx
  have hl := oks_len h1
  refine ⟨goInt (ents a b 0).length, ?_, ?_⟩
  · simp only [S.ok, goInt, ents_len a b 0 h3, hl]
  · simp [Builtin.len_, run_underlying hdd, MapKept.run_getObj_map h4]
end
end Go.SX
