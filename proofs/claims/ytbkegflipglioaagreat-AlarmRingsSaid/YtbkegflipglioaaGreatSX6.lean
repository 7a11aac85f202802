/- SX: '==' . -/
import Derived.Test.YtbkegflipglioaaGreatSX5
import Derived.Laws.StructEq
namespace Go.SX
open Go.RowKit
section
variable {W : Addr → Nat → Nat → Option (List S)}
variable {m : Nat} {ν : Nat → Env}
theorem headL_spec : ∀ {cs : List S} {n : Nat} {r : List S}, headL cs n = some r → r = cs.take n ∧ n ≤ cs.length
  | cs, 0, r, h => by rw [headL_zero] at h; cases h; simp
  | [], n + 1, r, h => by rw [headL_nil] at h; cases h
  | x :: cs, n + 1, r, h => by
    rw [headL_cons] at h
    cases h1 : headL cs n with
    | none => rw [h1] at h; cases h
    | some y =>
      rw [h1] at h
      simp only [Option.some.injEq] at h
      obtain ⟨h2, h3⟩ := headL_spec h1
      subst h
      simp at h2 h3 ⊢
      exact ⟨h2, h3⟩
theorem dropO_spec : ∀ {cs : List S} {n : Nat} {r : List S}, dropO cs n = some r → r = cs.drop n ∧ n ≤ cs.length
  | cs, 0, r, h => by rw [dropO_zero] at h; cases h; simp
  | [], n + 1, r, h => by rw [dropO_nil] at h; cases h
  | x :: cs, n + 1, r, h => by
    rw [dropO_cons] at h
    obtain ⟨h2, h3⟩ := dropO_spec h
    simp at h2 ⊢
    exact ⟨h2, h3⟩
theorem subL_spec {cs : List S} {o n : Nat} {r : List S} (h : subL cs o n = some r) : r = (cs.drop o).take n ∧ o + n ≤ cs.length := by
  unfold subL at h
  split at h
  · rename_i r' h1
    obtain ⟨rfl, h3⟩ := dropO_spec h1
    obtain ⟨rfl, h5⟩ := headL_spec h
    simp at h5 ⊢
    omega
  · cases h
theorem subL_ok {cs : List S} {vs : List Value} {o n : Nat} {r : List S} (h : subL cs o n = some r) (hc : oks m ν cs vs) : oks m ν r ((vs.drop o).take n) ∧ o + n ≤ vs.length := by
  obtain ⟨rfl, h2⟩ := subL_spec h
  exact ⟨oks_take _ (oks_drop _ hc), by rw [oks_len hc]; exact h2⟩
theorem putH_spec : ∀ {cs vs r : List S}, putH cs vs = some r → r = vs ++ cs.drop vs.length ∧ vs.length ≤ cs.length
  | cs, [], r, h => by rw [putH_nil] at h; cases h; simp
  | [], v :: vs, r, h => by rw [putH_none] at h; cases h
  | x :: cs, v :: vs, r, h => by
    rw [putH_cons] at h
    cases h1 : putH cs vs with
    | none => rw [h1] at h; cases h
    | some y =>
      rw [h1] at h
      simp only [Option.some.injEq] at h
      obtain ⟨h2, h3⟩ := putH_spec h1
      subst h
      simp at h2 h3 ⊢
      exact ⟨h2, h3⟩
theorem putL_spec : ∀ {cs : List S} {o : Nat} {vs r : List S}, putL cs o vs = some r → r = cs.take o ++ vs ++ cs.drop (o + vs.length) ∧ o + vs.length ≤ cs.length
  | cs, 0, vs, r, h => by
    rw [putL_zero] at h
    obtain ⟨h2, h3⟩ := putH_spec h
    simp [h2, h3]
  | [], o + 1, vs, r, h => by rw [putL_nil] at h; cases h
  | x :: cs, o + 1, vs, r, h => by
    rw [putL_cons] at h
    cases h1 : putL cs o vs with
    | none => rw [h1] at h; cases h
    | some y =>
      rw [h1] at h
      simp only [Option.some.injEq] at h
      obtain ⟨h2, h3⟩ := putL_spec h1
      subst h
      rw [show o + 1 + vs.length = (o + vs.length) + 1 by omega]
      simp at h2 ⊢
      exact ⟨h2, by omega⟩
end
section
variable {W : Addr → Nat → Nat → Option (List S)}
variable {P : Program} {tt : Nat → Option TI} {m : Nat} {ν : Nat → Env}
theorem part_ok (hT : TOk P tt) {t : TypeId} {cs : List S} {vs : List Value} {off : Nat} {s : S} (h : partS tt t cs off = some s) (hc : oks m ν cs vs) : ∃ v, s.ok m ν v ∧ ∀ w, (part t vs.toArray off).run P w = .ok v w := by
  unfold partS at h
  cases ht : tt t with
  | none => rw [ht] at h; cases h
  | some ti =>
    have hti := hT t ti ht
    simp only [ht] at h
    cases ha : ti.agg with
    | true =>
      simp only [ha] at h
      cases h1 : subL cs off ti.size with
      | none => simp [h1] at h
      | some r =>
        simp only [h1, Option.some.injEq] at h
        subst h
        obtain ⟨h2, h3⟩ := subL_ok h1 hc
        refine ⟨.agg ((vs.drop off).take ti.size).toArray, by simp only [S.ok]; exact ⟨_, rfl, h2⟩, fun w => ?_⟩
        simp only [part, Sem.run_bind, run_agg hti, run_size hti, ha, Result.andThen_ok, if_true, Sem.run_pure]
        congr 2
        apply Array.toList_inj.1
        simp
    | false =>
      simp only [ha] at h
      cases h1 : subL cs off 1 with
      | none => simp [h1] at h
      | some r =>
        simp only [h1] at h
        match r, h1, h with
        | [], h1, h => simp at h
        | [x], h1, h =>
          simp only at h
          split at h
          · simp only [Option.some.injEq] at h
            subst h
            obtain ⟨h2, h3⟩ := subL_ok h1 hc
            have h4 : (vs.drop off).take 1 = [vs[off]] := by
              rw [List.drop_eq_getElem_cons (by omega)]; rfl
            rw [h4] at h2
            refine ⟨_, (oks_cons_iff.1 h2).1, fun w => ?_⟩
            have h5 : vs.toArray[off]? = some vs[off] := by simp
            simp [part, run_agg hti, ha, h5]
          · cases h
        | x :: y :: r, h1, h => simp at h

theorem andS_ok {a b r : S} {x y : Bool} (h : andS (std W) a b = some r) (ha : a.ok m ν (.bool x)) (hb : b.ok m ν (.bool y)) : r.ok m ν (.bool (x && y)) := by
  unfold andS at h
  split at h <;> simp only [Option.some.injEq, reduceCtorEq] at h <;> subst h <;> simp_all [S.ok, std, stdQ]
theorem notS_ok {a r : S} {v : Value} (h : notS (std W) a = some r) (ha : a.ok m ν v) : ∃ x, v = .bool x ∧ r.ok m ν (.bool (!x)) := by
  unfold notS at h
  split at h <;> simp only [Option.some.injEq, reduceCtorEq] at h <;> subst h <;> simp_all [S.ok, std, stdQ]
theorem eq1_ok {t : TypeId} {ti : TI} (hti : TIOk P t ti) {x y r : S} {v u : Value} (h : eq1 (std W) ti.d x y = some r) (hx : x.ok m ν v) (hy : y.ok m ν u) :
    ∃ b, r.ok m ν (.bool b) ∧ ∀ d w, (Op.equalIn (d + 1) t v u).run P w = .ok b w := by
  have hd := hti.desc
  cases hti' : ti.d with
  | int k0 =>
    simp only [hti'] at h hd
    cases x <;> cases y <;> simp only [eq1, reduceCtorEq] at h
    all_goals
      split at h
      · rename_i hk; subst hk
        simp only [Option.some.injEq] at h
        subst h
        simp only [S.ok] at hx hy
        subst hx; subst hy
        exact ⟨_, (by simp only [S.ok, std, stdB]; rfl), fun d w => by simp [Op.equalIn, run_underlying hd]⟩
      · cases h
  | bool =>
    simp only [hti'] at h hd
    cases x <;> cases y <;> simp only [eq1, reduceCtorEq, Option.some.injEq] at h
    all_goals
      subst h
      simp only [S.ok] at hx hy
      subst hx; subst hy
      exact ⟨_, (by simp only [S.ok, std, stdQ]; rfl), fun d w => by simp [Op.equalIn, run_underlying hd]⟩
  | string =>
    simp only [hti'] at h hd
    cases x <;> cases y <;> simp only [eq1, reduceCtorEq, Option.some.injEq] at h
    subst h
    simp only [S.ok] at hx hy
    subst hx; subst hy
    refine ⟨_, (by simp only [S.ok]; rfl), fun d w => ?_⟩
    rw [run_equalIn_string w d t _ _ hd]
    rw [ByteArray.toList_eq, ByteArray.toList_eq]
  | ptr e =>
    simp only [hti'] at h hd
    cases x <;> cases y <;> simp only [eq1, reduceCtorEq, Option.some.injEq] at h
    all_goals
      subst h
      simp only [S.ok] at hx hy
    · subst hy; obtain ⟨_, rfl⟩ := hx; exact ⟨_, (by simp only [S.ok]; rfl), fun d w => by simp [Op.equalIn, run_underlying hd]⟩
    · subst hx; obtain ⟨_, rfl⟩ := hy; exact ⟨_, (by simp only [S.ok]; rfl), fun d w => by simp [Op.equalIn, run_underlying hd]⟩
    · subst hx; subst hy; exact ⟨_, (by simp only [S.ok]; rfl), fun d w => by simp [Op.equalIn, run_underlying hd]⟩
  | _ => simp [hti', eq1] at h

/-- Arrays by '==': element by element. -/
def eqElems (d : Nat) (e : TypeId) (n : Nat) (xs ys : Array Value) : List Nat → Sem Bool
  | [] => pure true
  | i :: is => do
    let a ← part e xs (i * n)
    let b ← part e ys (i * n)
    let r ← Op.equalIn d e a b
    if (!r) = true then pure false else eqElems d e n xs ys is
theorem run_equalIn_arr (w : World) (d : Nat) (t : TypeId) (xs ys : Array Value) {len : Nat} {e : TypeId} (ht : P.underlying t = some (.array len e)) :
    (Op.equalIn (d + 1) t (.agg xs) (.agg ys)).run P w = ((sizeOf e).run P w).andThen fun n w => (eqElems d e n xs ys (List.range len)).run P w := by
  simp only [Op.equalIn, Sem.run_bind, run_underlying ht, Result.andThen_ok]
  congr 1
  funext n w1
  clear ht
  rw [Std.Legacy.Range.forIn_eq_forIn_range']
  simp only [Std.Legacy.Range.size, Nat.sub_zero, Nat.add_sub_cancel, Nat.div_one, ← List.range_eq_range']
  generalize List.range len = is
  induction is generalizing w1 with
  | nil => simp [eqElems]
  | cons f fs ih =>
    simp only [List.forIn_cons, eqElems, Sem.run_bind, Sem.run_ite]
    generalize (part e xs (f * n)).run P w1 = r1
    cases r1 with
    | ok a w1 =>
      simp only [Result.andThen_ok]
      generalize (part e ys (f * n)).run P w1 = r2
      cases r2 with
      | ok b w2 =>
        simp only [Result.andThen_ok]
        generalize (Op.equalIn d e a b).run P w2 = r3
        cases r3 with
        | ok r w3 =>
          cases r
          · simp only [Result.andThen_ok, Bool.not_false, if_true, Sem.run_pure]
          · simp only [Result.andThen_ok, Bool.not_true, Bool.false_eq_true, if_false, Sem.run_pure]
            exact ih w3
        | halt x w3 => simp [Result.andThen]
      | halt x w2 => simp [Result.andThen]
    | halt x w1 => simp [Result.andThen]
def EqRec (P : Program) (m : Nat) (ν : Nat → Env) (d : Nat) (rec : TypeId → S → S → Option S) : Prop := ∀ t a b r v u, rec t a b = some r → a.ok m ν v → b.ok m ν u → ∃ bb, r.ok m ν (.bool bb) ∧ ∀ w, (Op.equalIn d t v u).run P w = .ok bb w
theorem eqF_struct (hT : TOk P tt) {d : Nat} {rec : TypeId → S → S → Option S} (hrec : EqRec P m ν d rec) {xs ys : List S} {vs us : List Value} (hx : oks m ν xs vs) (hy : oks m ν ys us) :
    ∀ (fa : List Field) {r : S}, (∀ f ∈ fa, f.name ≠ "_") → eqF (std W) tt rec (fa.map fun f => (f.offset, f.type)) xs ys = some r → ∃ bb, r.ok m ν (.bool bb) ∧ ∀ w, (Op.eqFields d vs.toArray us.toArray fa).run P w = .ok bb w
  | [], r, _, h => by
    simp only [List.map_nil, eqF, Option.some.injEq] at h
    subst h
    exact ⟨true, by simp [S.ok], fun w => by simp [Op.eqFields]⟩
  | f :: fa, r, hn, h => by
    simp only [List.map_cons, eqF] at h
    split at h
    case h_2 => cases h
    rename_i a b ha hb
    split at h
    case h_2 => cases h
    rename_i r1 hr1
    split at h
    case h_2 => cases h
    rename_i r2 hr2
    obtain ⟨v, hv, hvr⟩ := part_ok hT ha hx
    obtain ⟨u, hu, hur⟩ := part_ok hT hb hy
    obtain ⟨b1, h1, h1r⟩ := hrec _ _ _ _ _ _ hr1 hv hu
    obtain ⟨b2, h2, h2r⟩ := eqF_struct hT hrec hx hy fa (fun g hg => hn g (by simp [hg])) hr2
    refine ⟨b1 && b2, andS_ok h h1 h2, fun w => ?_⟩
    rw [Op.eqFields, if_pos (hn f (by simp))]
    cases b1 <;> simp [hvr, hur, h1r, h2r]
theorem eqF_elems (hT : TOk P tt) {d : Nat} {rec : TypeId → S → S → Option S} (hrec : EqRec P m ν d rec) {xs ys : List S} {vs us : List Value} (hx : oks m ν xs vs) (hy : oks m ν ys us) (e : TypeId) (sz : Nat) :
    ∀ (n k : Nat) {r : S}, eqF (std W) tt rec (places sz e n (k * sz)) xs ys = some r → ∃ bb, r.ok m ν (.bool bb) ∧ ∀ w, (eqElems d e sz vs.toArray us.toArray (List.range' k n)).run P w = .ok bb w
  | 0, k, r, h => by
    simp only [places, eqF, Option.some.injEq] at h
    subst h
    exact ⟨true, by simp [S.ok], fun w => by simp [eqElems]⟩
  | n + 1, k, r, h => by
    simp only [places, eqF] at h
    rw [show k * sz + sz = (k + 1) * sz by rw [Nat.succ_mul]] at h
    split at h
    case h_2 => cases h
    rename_i a b ha hb
    split at h
    case h_2 => cases h
    rename_i r1 hr1
    split at h
    case h_2 => cases h
    rename_i r2 hr2
    obtain ⟨v, hv, hvr⟩ := part_ok hT ha hx
    obtain ⟨u, hu, hur⟩ := part_ok hT hb hy
    obtain ⟨b1, h1, h1r⟩ := hrec _ _ _ _ _ _ hr1 hv hu
    obtain ⟨b2, h2, h2r⟩ := eqF_elems hT hrec hx hy e sz n (k + 1) hr2
    refine ⟨b1 && b2, andS_ok h h1 h2, fun w => ?_⟩
    rw [List.range'_succ, eqElems]
    cases b1 <;> simp [hvr, hur, h1r, h2r]
theorem eqT_ok (hT : TOk P tt) : ∀ (n d : Nat), n ≤ d → EqRec P m ν d (eqT (std W) tt n)
  | 0, d, _ => fun t a b r v u h => by simp [eqT] at h
  | n + 1, 0, hd => by omega
  | n + 1, d + 1, hd => fun t a b r v u h ha hb => by
    have ih := eqT_ok hT n d (by omega)
    unfold eqT at h
    split at h
    · rename_i xs ys
      simp only [S.ok] at ha hb
      obtain ⟨vs, rfl, hx⟩ := ha
      obtain ⟨us, rfl, hy⟩ := hb
      cases ht : tt t with
      | none => simp [ht] at h
      | some ti =>
        have hti := hT t ti ht
        have hdesc := hti.desc
        simp only [ht] at h
        split at h
        case isFalse => cases h
        split at h
        · rename_i fs hfs
          simp only [hfs] at hdesc
          obtain ⟨fa, hu, hm, hn, hs⟩ := hdesc
          rw [← hm] at h
          obtain ⟨bb, h1, h2⟩ := eqF_struct hT ih hx hy fa.toList hn h
          refine ⟨bb, h1, fun w => ?_⟩
          have hfo : P.fieldsOf t = fa := by simp [Program.fieldsOf, hu]
          rw [run_equalIn_struct w d t _ _ (by rw [hfo]; exact hu) hs, hfo]
          exact h2 w
        · rename_i len e hfs
          simp only [hfs] at hdesc
          cases hte : tt e with
          | none => simp [hte] at h
          | some te =>
            simp only [hte] at h
            rw [show (0 : Nat) = 0 * te.size by simp] at h
            obtain ⟨bb, h1, h2⟩ := eqF_elems hT ih hx hy e te.size len 0 h
            refine ⟨bb, h1, fun w => ?_⟩
            rw [run_equalIn_arr w d t _ _ hdesc, run_size (hT e te hte), Result.andThen_ok, List.range_eq_range']
            exact h2 w
        · cases h
    · cases ht : tt t with
      | none => simp [ht] at h
      | some ti =>
        simp only [ht] at h
        obtain ⟨bb, h1, h2⟩ := eq1_ok (hT t ti ht) h ha hb
        exact ⟨bb, h1, h2 d⟩
theorem ifO {c : Prop} [Decidable c] {A : Option S} {r : S} (h : (if c then A else none) = some r) : c ∧ A = some r := by
  split at h
  · exact ⟨‹_›, h⟩
  · cases h
theorem isNilSl_of {v : Value} (h : isNilSl v = true) : ∃ n c, v = .slice none n c := by
  unfold isNilSl at h
  split at h
  · exact ⟨_, _, rfl⟩
  · cases h
theorem isNilIf_of {v : Value} (h : isNilIf v = true) : v = .nilIface := by
  unfold isNilIf at h
  split at h
  · rfl
  · cases h
theorem eqAll {t : TypeId} {v u : Value} {b : Bool} (h : ∀ d w, (Op.equalIn (d + 1) t v u).run P w = .ok b w) (w : World) : (Op.equal t v u).run P w = .ok b w := h 9999 w
theorem eqX_ok (hT : TOk P tt) {t : TypeId} {x y r : S} {v u : Value} (h : eqX (std W) tt t x y = some r) (hx : x.ok m ν v) (hy : y.ok m ν u) : ∃ b, r.ok m ν (.bool b) ∧ ∀ w, (Op.equal t v u).run P w = .ok b w := by
  unfold eqX at h
  cases ht : tt t with
  | none => simp [ht] at h
  | some ti =>
    have hti := hT t ti ht
    have hd := hti.desc
    simp only [ht] at h
    split at h
    · rename_i hdd
      simp only [hdd] at hd
      obtain ⟨h0, h1⟩ := ifO h
      simp only [Bool.and_eq_true] at h0
      simp only [Option.some.injEq] at h1
      subst h1
      obtain ⟨n, c, rfl⟩ := isNilSl_of h0.1
      obtain ⟨n2, c2, rfl⟩ := isNilSl_of h0.2
      simp only [S.ok] at hx hy
      subst hx; subst hy
      exact ⟨true, by simp [S.ok], eqAll fun d w => by simp [Op.equalIn, run_underlying hd]⟩
    · rename_i hdd
      simp only [hdd] at hd
      obtain ⟨h0, h1⟩ := ifO h
      simp only [Option.some.injEq] at h1
      subst h1
      obtain ⟨n, c, rfl⟩ := isNilSl_of h0
      simp only [S.ok] at hx hy
      subst hy
      obtain ⟨_, _, _, a, rfl, _⟩ := hx
      exact ⟨false, by simp [S.ok], eqAll fun d w => by simp [Op.equalIn, run_underlying hd]⟩
    · rename_i hdd
      simp only [hdd] at hd
      obtain ⟨h0, h1⟩ := ifO h
      simp only [Option.some.injEq] at h1
      subst h1
      obtain ⟨n, c, rfl⟩ := isNilSl_of h0
      simp only [S.ok] at hx hy
      subst hx
      obtain ⟨_, _, _, a, rfl, _⟩ := hy
      exact ⟨false, by simp [S.ok], eqAll fun d w => by simp [Op.equalIn, run_underlying hd]⟩
    · rename_i hdd
      simp only [hdd] at hd
      obtain ⟨ms, hd⟩ := hd
      obtain ⟨h0, h1⟩ := ifO h
      simp only [Option.some.injEq] at h1
      subst h1
      obtain rfl := isNilIf_of h0
      simp only [S.ok] at hx hy
      subst hx
      obtain ⟨a, rfl, _⟩ := hy
      exact ⟨false, by simp [S.ok], eqAll fun d w => by simp [Op.equalIn, run_underlying hd]⟩
    · rename_i hdd
      simp only [hdd] at hd
      obtain ⟨ms, hd⟩ := hd
      obtain ⟨h0, h1⟩ := ifO h
      simp only [Option.some.injEq] at h1
      subst h1
      obtain rfl := isNilIf_of h0
      simp only [S.ok] at hx hy
      subst hy
      obtain ⟨a, rfl, _⟩ := hx
      exact ⟨false, by simp [S.ok], eqAll fun d w => by simp [Op.equalIn, run_underlying hd]⟩
    · exact eqT_ok hT 20 10000 (by omega) _ _ _ _ _ _ h hx hy
end
end Go.SX
