/- SX: regions that draw their order, by a plan. -/
import Derived.Test.YtbkegflipglioaaGreatSX11
namespace Go.SX
open Go.RowKit
mutual
theorem sure_unique {m : Nat} {ν : Nat → Env} : ∀ (s : S) (u v : Value), S.sure s = true → s.ok m ν u → s.ok m ν v → u = v
  | .il k n, u, v, _, h1, h2 => by simp only [S.ok] at h1 h2; rw [h1, h2]
  | .iv k n, u, v, _, h1, h2 => by simp only [S.ok] at h1 h2; rw [h1, h2]
  | .bl x, u, v, _, h1, h2 => by simp only [S.ok] at h1 h2; rw [h1, h2]
  | .bv x, u, v, _, h1, h2 => by simp only [S.ok] at h1 h2; rw [h1, h2]
  | .tl x, u, v, _, h1, h2 => by simp only [S.ok] at h1 h2; rw [h1, h2]
  | .tv x, u, v, _, h1, h2 => by simp only [S.ok] at h1 h2; rw [h1, h2]
  | .ptr id off, u, v, _, h1, h2 => by simp only [S.ok] at h1 h2; rw [h1.2, h2.2]
  | .rp a off, u, v, _, h1, h2 => by simp only [S.ok] at h1 h2; rw [h1, h2]
  | .nil, u, v, _, h1, h2 => by simp only [S.ok] at h1 h2; rw [h1, h2]
  | .sli id off len c z, u, v, hs, h1, h2 => by
    have hz : z = false := by simpa [S.sure] using hs
    simp only [S.ok] at h1 h2
    obtain ⟨_, _, _, a, h3, h4⟩ := h1
    obtain ⟨_, _, _, b, h5, h6⟩ := h2
    rw [h3, h5, h4 (Or.inl hz), h6 (Or.inl hz)]
  | .raw x, u, v, _, h1, h2 => by simp only [S.ok] at h1 h2; rw [h1, h2]
  | .fn f cs, u, v, hs, h1, h2 => by
    simp only [S.ok] at h1 h2
    obtain ⟨us, rfl, h3⟩ := h1
    obtain ⟨vs, rfl, h4⟩ := h2
    rw [sures_unique cs us vs (by simpa [S.sure] using hs) h3 h4]
  | .bm f cs, u, v, hs, h1, h2 => by
    simp only [S.ok] at h1 h2
    obtain ⟨us, rfl, h3⟩ := h1
    obtain ⟨vs, rfl, h4⟩ := h2
    rw [sures_unique cs us vs (by simpa [S.sure] using hs) h3 h4]
  | .ifc t x, u, v, hs, h1, h2 => by
    simp only [S.ok] at h1 h2
    obtain ⟨us, rfl, h3⟩ := h1
    obtain ⟨vs, rfl, h4⟩ := h2
    rw [sure_unique x us vs (by simpa [S.sure] using hs) h3 h4]
  | .mp id, u, v, _, h1, h2 => by simp only [S.ok] at h1 h2; rw [h1.2, h2.2]
  | .agg cs, u, v, hs, h1, h2 => by
    simp only [S.ok] at h1 h2
    obtain ⟨us, rfl, h3⟩ := h1
    obtain ⟨vs, rfl, h4⟩ := h2
    rw [sures_unique cs us vs (by simpa [S.sure] using hs) h3 h4]
  | .tup cs, u, v, hs, h1, h2 => by
    simp only [S.ok] at h1 h2
    obtain ⟨us, rfl, h3⟩ := h1
    obtain ⟨vs, rfl, h4⟩ := h2
    rw [sures_unique cs us vs (by simpa [S.sure] using hs) h3 h4]
  | .un, u, v, _, h1, h2 => by simp only [S.ok] at h1 h2; rw [h1, h2]
  | .junk, u, v, hs, _, _ => by simp [S.sure] at hs
theorem sures_unique {m : Nat} {ν : Nat → Env} : ∀ (cs : List S) (us vs : List Value), S.sure.sures cs = true → oks m ν cs us → oks m ν cs vs → us = vs
  | [], us, vs, _, h1, h2 => by simp only [S.oks] at h1 h2; rw [h1, h2]
  | c :: cs, us, vs, hs, h1, h2 => by
    simp only [S.oks] at h1 h2
    obtain ⟨u, us', rfl, h3, h4⟩ := h1
    obtain ⟨v, vs', rfl, h5, h6⟩ := h2
    simp only [S.sure.sures, Bool.and_eq_true] at hs
    rw [sure_unique c u v hs.1 h3 h5, sures_unique cs us' vs' hs.2 h4 h6]
end
theorem maskE_desc {ops : Array Oper} {acc : List Nat} (hacc : ∀ j, j < acc.length → ∀ i, (acc.getD j 0).testBit i = true → Desc ops i j) {j : Nat} {o : Oper} (ho : ops[j]? = some o) :
    ∀ (es : List Edge), (∀ e ∈ es, e ∈ o.after) → ∀ i, (maskE acc es).testBit i = true → Desc ops i j
  | [], _, i, h => by simp [maskE] at h
  | e :: es, hes, i, h => by
    have ih := maskE_desc hacc ho es (fun e' he' => hes e' (by simp [he']))
    simp only [maskE] at h
    split at h
    · rename_i hb
      simp only [Nat.testBit_or, Bool.or_eq_true] at h
      rcases h with (h | h) | h
      · rw [Nat.testBit_two_pow] at h
        exact .one ho (hes e (by simp)) hb (by simpa using h)
      · rcases Nat.lt_or_ge e.on acc.length with hl | hl
        · exact .more ho (hes e (by simp)) hb (hacc _ hl i h)
        · rw [List.getD_eq_getElem?_getD, List.getElem?_eq_none hl] at h; simp at h
      · exact ih i h
    · exact ih i h
theorem masks_desc {ops : Array Oper} : ∀ (l : List Oper) (acc : List Nat), (∀ k, l[k]? = ops[acc.length + k]?) → (∀ j, j < acc.length → ∀ i, (acc.getD j 0).testBit i = true → Desc ops i j) →
    ∀ j i, ((masks l acc).getD j 0).testBit i = true → Desc ops i j
  | [], acc, _, hacc, j, i, h => by
    simp only [masks] at h
    rcases Nat.lt_or_ge j acc.length with hl | hl
    · exact hacc j hl i h
    · rw [List.getD_eq_getElem?_getD, List.getElem?_eq_none hl] at h; simp at h
  | o :: l, acc, hl, hacc, j, i, h => by
    simp only [masks] at h
    refine masks_desc l _ (fun k => ?_) (fun j hj i hi => ?_) j i h
    · have := hl (k + 1); simpa [Nat.add_assoc, Nat.add_comm 1 k] using this
    · simp only [List.length_append, List.length_singleton] at hj
      rcases Nat.lt_or_ge j acc.length with h1 | h1
      · rw [List.getD_eq_getElem?_getD, List.getElem?_append_left h1, ← List.getD_eq_getElem?_getD] at hi
        exact hacc j h1 i hi
      · have hj' : j = acc.length := by omega
        subst hj'
        rw [List.getD_eq_getElem?_getD, List.getElem?_append_right (Nat.le_refl _)] at hi
        simp only [Nat.sub_self, List.getElem?_cons_zero, Option.getD_some] at hi
        have ho : ops[acc.length]? = some o := by have := hl 0; simpa using this.symm
        exact maskE_desc hacc ho o.after.toList (fun e he => by simpa using he) i hi
section
variable {W : Addr → Nat → Nat → Option (List S)}
variable {P : Program} {tt : Nat → Option TI} {w0 w : World} {S0 : List Nat} {ν : Nat → Env} {h : List Ob}
variable {callK : FuncId → List S → List Ob → (S → List Ob → Prop) → Prop}
/-- A pure operation behind its guard. -/
theorem runG_pure (hT : TOk P tt) {ops : Array Oper} {o : Oper} {t : List S} {a : Act} {K : List S → List Ob → S → Prop} (hp : isPure o.op = true) (H : HOk W w0 S0 ν h w) (ht : oks h.length ν t a.tmps.toList) (hk : runG (std W) tt callK (coP ops.toList o) t h K) :
    ∃ v s t' h', YieldsI P ops o (fun _ => True) v a ∧ K t' h' s ∧ h'.length = h.length ∧ HOk W w0 S0 ν h' w ∧ oks h.length ν t' (a.put o.dst v).tmps.toList := by
  rw [runP_eq _ _ _ hp] at hk
  rcases guardD_cases ht hk with ⟨h1, t', ht', hk⟩ | ⟨h1, t', ht', hk⟩
  · obtain ⟨s, v, g1, g2, g3⟩ := pure_sound hT hp (fun x => ev_ok ht' x) hk
    obtain ⟨s2, h2, k1, k2, k3, k4⟩ := orcS_ok H g2 g1
    exact ⟨v, s2, _, h2, Or.inl ⟨h1, fun w _ => g3 w⟩, k1, k2, k3, putD_ok o.dst ht' k4⟩
  · exact ⟨undef, _, _, h, Or.inr ⟨h1, rfl⟩, hk, rfl, H, putD_ok o.dst ht' (by simp only [S.ok])⟩

abbrev LE := Nat × TypeId × S × S
abbrev PE := Nat × TypeId × Value × Value
/-- Loads that were taken ahead: as they are told, as they are. -/
def LRel (P : Program) (w : World) (m : Nat) (ν : Nat → Env) : List LE → List PE → Prop
  | [], ps => ps = []
  | (i, t, a, s) :: L, ps => ∃ av v ps', ps = (i, t, av, v) :: ps' ∧ a.ok m ν av ∧ s.ok m ν v ∧ S.sure s = true ∧ (Instr.loadAt t av).run P w = .ok v w ∧ LRel P w m ν L ps'
def pendOf (P : Program) (ps : List PE) (k : Nat) (w : World) : Prop := ∀ p ∈ ps, p.1 = k → (Instr.loadAt p.2.1 p.2.2.1).run P w = .ok p.2.2.2 w
theorem LRel.pend {m : Nat} : ∀ {L : List LE} {ps : List PE}, LRel P w m ν L ps → ∀ k, pendOf P ps k w
  | [], ps, hl, k => by simp only [LRel] at hl; subst hl; intro p hp; cases hp
  | (i, t, a, s) :: L, ps, hl, k => by
    simp only [LRel] at hl
    obtain ⟨av, v, ps', rfl, _, _, _, h4, h5⟩ := hl
    intro p hp hk
    rcases List.mem_cons.1 hp with rfl | hp
    · exact h4
    · exact LRel.pend h5 k p hp hk
theorem LRel.idx {m : Nat} : ∀ {L : List LE} {ps : List PE}, LRel P w m ν L ps → ∀ p ∈ ps, ∃ x ∈ L, x.1 = p.1
  | [], ps, hl => by simp only [LRel] at hl; subst hl; intro p hp; cases hp
  | (i, t, a, s) :: L, ps, hl => by
    simp only [LRel] at hl
    obtain ⟨av, v, ps', rfl, _, _, _, h4, h5⟩ := hl
    intro p hp
    rcases List.mem_cons.1 hp with rfl | hp
    · exact ⟨(i, t, a, s), by simp, rfl⟩
    · obtain ⟨x, hx, he⟩ := LRel.idx h5 p hp; exact ⟨x, by simp [hx], he⟩
/-- Behind an operation: what is checked is as it was. -/
theorem LRel.step (hT : TOk P tt) {w' : World} {ν' : Nat → Env} {h' : List Ob} {m : Nat} (H' : HOk W w0 S0 ν' h' w') (he : ∀ i, i < m → ν' i = ν i) (hm : m ≤ h'.length) (f : Nat → Bool) :
    ∀ {L : List LE} {ps : List PE}, LRel P w m ν L ps → (∀ x ∈ L.filter (fun x => f x.1), loadS (std W) tt x.2.1 x.2.2.1 h' = some x.2.2.2) → LRel P w' h'.length ν' (L.filter fun x => f x.1) (ps.filter fun p => f p.1)
  | [], ps, hl, _ => by simp only [LRel] at hl; subst hl; simp [LRel]
  | (i, t, a, s) :: L, ps, hl, hc => by
    simp only [LRel] at hl
    obtain ⟨av, v, ps', rfl, h1, h2, h3, h4, h5⟩ := hl
    cases hf : f i with
    | false =>
      rw [List.filter_cons_of_neg (by simp [hf]), List.filter_cons_of_neg (by simp [hf])]
      rw [List.filter_cons_of_neg (by simp [hf])] at hc
      exact LRel.step hT H' he hm f h5 hc
    | true =>
      rw [List.filter_cons_of_pos (by simp [hf]), List.filter_cons_of_pos (by simp [hf])]
      rw [List.filter_cons_of_pos (by simp [hf])] at hc
      have hl := hc (i, t, a, s) (by simp)
      have ha' := S.ok_mono he hm _ _ h1
      obtain ⟨u, g1, g2⟩ := loadS_sound hT H' hl ha'
      have hs' := S.ok_mono he hm _ _ h2
      have huv := sure_unique s u v h3 g1 hs'
      subst huv
      simp only [LRel]
      exact ⟨av, u, _, rfl, ha', hs', h3, g2, LRel.step hT H' he hm f h5 fun x hx => hc x (by simp [hx])⟩
theorem checkL_iff : ∀ {L : List LE} {h : List Ob} {X : Prop}, checkL (std W) tt L h X → (∀ x ∈ L, loadS (std W) tt x.2.1 x.2.2.1 h = some x.2.2.2) ∧ X
  | [], h, X, hc => ⟨by simp, hc⟩
  | (i, t, a, s) :: L, h, X, hc => by
    obtain ⟨h1, h2⟩ : loadS (std W) tt t a h = some s ∧ checkL (std W) tt L h X := by
      simp only [checkL] at hc
      split at hc
      · rename_i hs
        exact ⟨sameO_eq hs, hc⟩
      · exact hc
    obtain ⟨h3, h4⟩ := checkL_iff h2
    refine ⟨fun x hx => ?_, h4⟩
    rcases List.mem_cons.1 hx with rfl | hx
    · exact h1
    · exact h3 x hx
theorem execD_sound (hT : TOk P tt) (hcall : ∀ f args h K, callK f args h K → CallSem W P f args h K) {ops : Array Oper} {Q : Exit → Act → World → Prop} (hQ : ∀ c a w, ¬ Q (.panic c) a w) (hsel : Region.noSelect ops = true) {ms : List Nat} (hms : ∀ j i, (ms.getD j 0).testBit i = true → Desc ops i j) :
    ∀ (n : Nat) (listed : Array Bool) (taken : List Nat) (ps : List DStep) (L : List LE) (PL : List PE) (t : List S) (h : List Ob) (ν : Nat → Env) (a : Act) (w : World) (K : St → Prop),
      planGo ops ms n listed taken = some ps → Closed ops listed → (∀ x ∈ L, x.1 ∈ taken) → LRel P w h.length ν L PL → HOk W w0 S0 ν h w → oks h.length ν t a.tmps.toList → a.defers = [] →
      execD (std W) tt callK ps t h L K →
      (∀ (st : St) (ν' : Nat → Env) (a' : Act) (w' : World), K st → h.length ≤ st.h.length → (∀ i, i < h.length → ν' i = ν i) → HOk W w0 S0 ν' st.h w' → oks st.h.length ν' st.t a'.tmps.toList → a'.defers = [] → Q .normal a' w') →
      wpAnyS P ops Q ps.length listed (pendOf P PL) a w := by
  intro n
  induction n with
  | zero => intro listed taken ps L PL t h ν a w K hp; simp [planGo] at hp
  | succ n ih =>
    intro listed taken ps L PL t h ν a w K hp hcl hLt hLR H ht hd hk hq
    simp only [planGo] at hp
    split at hp
    · rename_i hr
      simp only [Option.some.injEq] at hp
      subst hp
      exact ⟨hr, hq ⟨t, h⟩ ν a w hk (Nat.le_refl _) (fun _ _ => rfl) H ht hd⟩
    · rename_i r rs hr
      split at hp
      · -- taken ahead
        rename_i i hfind
        split at hp
        case h_2 => cases hp
        rename_i o ho
        split at hp
        case h_2 => cases hp
        rename_i ps' hps
        simp only [Option.some.injEq] at hp
        subst hp
        have hmem : i ∈ Region.ready .any ops listed := by rw [hr]; exact List.mem_of_find?_eq_some hfind
        have hcond := List.find?_some hfind
        rw [ho] at hcond
        simp only [Bool.and_eq_true, Bool.or_eq_true] at hcond
        obtain ⟨hlp, hfree⟩ := hcond
        have hfree' := fun j oj hj hne hun hno => Region.free_spec (md := .any) ho hfree j oj hj hne hun hno
        have hsel' := Region.noSelect_spec hsel
        rcases hlp with hload | hpure
        · -- a load
          cases hop : o.op with
          | load ty x =>
            have hlo : stepOf ops.toList i o = .load i (coP ops.toList o) ty x := by simp only [stepOf, hop, loadOp]
            rw [hlo] at hk
            simp only [execD_load] at hk
            have hlt : isLoad o.op = true := hload
            rw [hlt] at hps
            simp only [if_true] at hps
            have hdst : (coP ops.toList o).dst = o.dst := rfl
            rcases guardD_cases ht hk with ⟨hw, t', ht', hk⟩ | ⟨hw, t', ht', hk⟩
            · obtain ⟨s, hs, hk⟩ := someK_iff hk
              split at hk
              case h_2 => exact hk.elim
              rename_i hsure
              obtain ⟨v, hv1, hv2⟩ := loadS_sound hT H hs (ev_ok ht x)
              rw [hdst, putDK_eq] at hk
              refine take_first ho hsel' hQ ps'.length listed (pendOf P PL) a w (I := fun w' => (Instr.loadAt ty (a.eval x)).run P w' = .ok v w') (v := v) hcl hfree' hmem
                (Or.inl ⟨hw, fun w' hw' => by obtain ⟨d0, op0, ty0, p0, af0, g0⟩ := o; simp only at hop; subst hop; simp [execOp, hw']⟩) hv2 (fun k => hLR.pend k) ?_
              refine wpAnyS_weaken _ (fun k w' hpk => ?_) (ih _ (i :: taken) ps' ((i, ty, evS t x, s) :: L) ((i, ty, a.eval x, v) :: PL) _ h ν _ w K hps (closed_set hcl hmem) ?_ ?_ H (putD_ok o.dst ht' hv1) (by rw [put_defers]; exact hd) hk hq)
              · exact ⟨fun hki => hpk (i, ty, a.eval x, v) (by simp) hki.symm, fun p hp hk => hpk p (by simp [hp]) hk⟩
              · intro y hy
                rcases List.mem_cons.1 hy with rfl | hy
                · simp
                · simp [hLt y hy]
              · simp only [LRel]
                exact ⟨_, _, _, rfl, ev_ok ht x, hv1, hsure, hv2, hLR⟩
            · rw [hdst, putDK_eq] at hk
              refine take_first ho hsel' hQ ps'.length listed (pendOf P PL) a w (I := fun _ => True) (v := undef) hcl hfree' hmem (Or.inr ⟨hw, rfl⟩) trivial (fun k => hLR.pend k) ?_
              exact wpAnyS_weaken _ (fun k w' hpk => ⟨fun _ => trivial, hpk⟩) (ih _ (i :: taken) ps' L PL _ h ν _ w K hps (closed_set hcl hmem) (fun y hy => by simp [hLt y hy]) hLR H (putD_ok o.dst ht' (by simp only [S.ok])) (by rw [put_defers]; exact hd) hk hq)
          | _ => rw [hop] at hload; simp [isLoad] at hload
        · -- a pure one
          have hnl : isLoad o.op = false := by
            cases hop : o.op with
            | load ty x => rw [hop] at hpure; simp [isPure] at hpure
            | _ => rfl
          rw [hnl] at hps
          simp only [Bool.false_eq_true, if_false] at hps
          have hlo : stepOf ops.toList i o = .take i (coP ops.toList o) := by
            unfold stepOf
            cases hop : o.op with
            | load ty x => rw [hop] at hnl; simp [isLoad] at hnl
            | _ => rfl
          rw [hlo] at hk
          simp only [execD_take] at hk
          have hk' : runG (std W) tt callK (coP ops.toList o) t h (fun t' h' _ => execD (std W) tt callK ps' t' h' L K) := hk
          obtain ⟨v, s, t', h2, hy, hk2, hl2, H2, ht'⟩ := runG_pure hT hpure H ht hk'
          refine take_first ho hsel' hQ ps'.length listed (pendOf P PL) a w (I := fun _ => True) (v := v) hcl hfree' hmem hy trivial (fun k => hLR.pend k) ?_
          exact wpAnyS_weaken _ (fun k w' hpk => ⟨fun _ => trivial, hpk⟩) (ih _ taken ps' L PL t' h2 ν _ w K hps (closed_set hcl hmem) hLt (by rw [hl2]; exact hLR) H2 (by rw [hl2]; exact ht') (by rw [put_defers]; exact hd) hk2 (by rw [hl2]; exact hq))
      · -- the only one
        split at hp
        case h_2 => cases hp
        rename_i o ho hfn
        split at hp
        case h_2 => cases hp
        rename_i ps' hps
        simp only [Option.some.injEq] at hp
        subst hp
        simp only [execD_one, filtK_eq] at hk
        refine ⟨fun h0 => (by rw [hr] at h0; cases h0), fun j hj => ?_⟩
        have hj' : j = r := by rw [hr] at hj; simpa using hj
        subst hj'
        have fin : ∀ (t' : List S) (h' : List Ob) (ν' : Nat → Env) (s : S) (a' : Act) (w' : World), GPost W w0 S0 ν h.length (fun t' h' _ => checkL (std W) tt (L.filter fun x => (taken.filter fun l => !(ms.getD j 0).testBit l).contains x.1) h' (execD (std W) tt callK ps' t' h' (L.filter fun x => (taken.filter fun l => !(ms.getD j 0).testBit l).contains x.1) K)) a' w' t' h' ν' s →
            (∀ k, ¬ Desc ops k j → pendOf P PL k w') ∧ wpAnyS P ops Q ps'.length (listed.setIfInBounds j true) (fun k w => ¬ Desc ops k j → pendOf P PL k w) a' w' := by
          intro t' h' ν' s a' w' g
          obtain ⟨hc1, hc2⟩ := checkL_iff g.k
          have hLR' := hLR.step hT g.hok g.ext g.le (fun k => (taken.filter fun l => !(ms.getD j 0).testBit l).contains k) hc1
          have hkeep : ∀ p ∈ PL, ¬ Desc ops p.1 j → p ∈ PL.filter fun p => (taken.filter fun l => !(ms.getD j 0).testBit l).contains p.1 := by
            intro p hp hnd
            obtain ⟨x, hx, he⟩ := hLR.idx p hp
            have h1 := hLt x hx
            rw [he] at h1
            refine List.mem_filter.2 ⟨hp, ?_⟩
            simp only [List.contains_eq_mem, List.mem_filter, Bool.not_eq_true', decide_eq_true_eq]
            refine ⟨h1, ?_⟩
            cases hb : (ms.getD j 0).testBit p.1 with
            | false => rfl
            | true => exact absurd (hms j p.1 hb) hnd
          refine ⟨fun k hk p hp hpk => ?_, ?_⟩
          · subst hpk
            exact hLR'.pend p.1 p (hkeep p hp hk) rfl
          · refine wpAnyS_weaken _ (fun k w2 hpk hnd p hp hpe => ?_) (ih _ _ ps' _ _ t' h' ν' a' w' K hps (closed_set hcl hj) ?_ hLR' g.hok g.tok g.def_ hc2 fun st ν'' a'' w'' k1 k2 k3 k4 k5 k6 => hq st ν'' a'' w'' k1 (Nat.le_trans g.le k2) (fun i hi => (k3 i (Nat.lt_of_lt_of_le hi g.le)).trans (g.ext i hi)) k4 k5 k6)
            · subst hpe
              exact hpk p (hkeep p hp hnd) rfl
            · intro x hx
              have := (List.mem_filter.1 hx).2
              simpa using this
        unfold wpOp
        simp only [ho]
        rcases runG_sound hT hcall H ht hd hk with ⟨h1, h2⟩ | ⟨h1, t', g⟩
        · rw [if_pos h1]
          exact .inl (h2 _ Q fun t' h' ν' s v a' w' _ g => fin t' h' ν' s a' w' g)
        · rw [if_neg (by rw [h1]; decide)]
          exact fin t' h ν .un _ _ g
theorem forks_exec {f : Nat → Option DT} {t : List S} {h : List Ob} {L : List (Nat × TypeId × S × S)} {K : St → Prop} : ∀ {l : List Nat} {dt : DT}, forks f l = some dt → execT (std W) tt callK dt t h L K → ∀ j ∈ l, ∃ p, f j = some p ∧ execT (std W) tt callK p t h L K ∧ p.depth = dt.depth
  | [], dt, hf, hk, j, hj => by cases hj
  | [i], dt, hf, hk, j, hj => by
    simp only [forks] at hf
    rw [List.mem_singleton.1 hj]
    exact ⟨dt, hf, hk, rfl⟩
  | i :: k :: r, dt, hf, hk, j, hj => by
    simp only [forks] at hf
    split at hf
    case h_2 => cases hf
    rename_i a b ha hb
    split at hf
    case isFalse => cases hf
    rename_i hab
    simp only [Option.some.injEq] at hf
    subst hf
    rw [execT_fork] at hk
    rcases List.mem_cons.1 hj with rfl | hj
    · exact ⟨a, ha, hk.1, rfl⟩
    · have hb' : forks f (k :: r) = some b := by simpa only [forks] using hb
      obtain ⟨p, h1, h2, h3⟩ := forks_exec hb' hk.2 j hj
      exact ⟨p, h1, h2, h3.trans hab.symm⟩
theorem execT_sound (hT : TOk P tt) (hcall : ∀ f args h K, callK f args h K → CallSem W P f args h K) {ops : Array Oper} {Q : Exit → Act → World → Prop} (hQ : ∀ c a w, ¬ Q (.panic c) a w) (hsel : Region.noSelect ops = true) {ms : List Nat} (hms : ∀ j i, (ms.getD j 0).testBit i = true → Desc ops i j) :
    ∀ (n : Nat) (listed : Array Bool) (taken : List Nat) (ps : DT) (L : List LE) (PL : List PE) (t : List S) (h : List Ob) (ν : Nat → Env) (a : Act) (w : World) (K : St → Prop),
      planT ops ms n listed taken = some ps → Closed ops listed → (∀ x ∈ L, x.1 ∈ taken) → LRel P w h.length ν L PL → HOk W w0 S0 ν h w → oks h.length ν t a.tmps.toList → a.defers = [] →
      execT (std W) tt callK ps t h L K →
      (∀ (st : St) (ν' : Nat → Env) (a' : Act) (w' : World), K st → h.length ≤ st.h.length → (∀ i, i < h.length → ν' i = ν i) → HOk W w0 S0 ν' st.h w' → oks st.h.length ν' st.t a'.tmps.toList → a'.defers = [] → Q .normal a' w') →
      wpAnyS P ops Q ps.depth listed (pendOf P PL) a w := by
  intro n
  induction n with
  | zero => intro listed taken ps L PL t h ν a w K hp; simp [planT] at hp
  | succ n ih =>
    intro listed taken ps L PL t h ν a w K hp hcl hLt hLR H ht hd hk hq
    simp only [planT] at hp
    split at hp
    · rename_i hr
      simp only [Option.some.injEq] at hp
      subst hp
      exact ⟨hr, hq ⟨t, h⟩ ν a w hk (Nat.le_refl _) (fun _ _ => rfl) H ht hd⟩
    · rename_i r rs hr
      split at hp
      · -- taken ahead
        rename_i i hfind
        split at hp
        case h_2 => cases hp
        rename_i o ho
        split at hp
        case h_2 => cases hp
        rename_i ps' hps
        simp only [Option.some.injEq] at hp
        subst hp
        have hmem : i ∈ Region.ready .any ops listed := by rw [hr]; exact List.mem_of_find?_eq_some hfind
        have hcond := List.find?_some hfind
        rw [ho] at hcond
        simp only [Bool.and_eq_true, Bool.or_eq_true] at hcond
        obtain ⟨hlp, hfree⟩ := hcond
        have hfree' := fun j oj hj hne hun hno => Region.free_spec (md := .any) ho hfree j oj hj hne hun hno
        have hsel' := Region.noSelect_spec hsel
        rcases hlp with hload | hpure
        · -- a load
          cases hop : o.op with
          | load ty x =>
            have hlo : stepT ops.toList i o ps' = .load i (coP ops.toList o) ty x ps' := by simp only [stepT, hop, loadOp]
            rw [hlo] at hk ⊢
            simp only [execT_load] at hk
            have hlt : isLoad o.op = true := hload
            rw [hlt] at hps
            simp only [if_true] at hps
            have hdst : (coP ops.toList o).dst = o.dst := rfl
            rcases guardD_cases ht hk with ⟨hw, t', ht', hk⟩ | ⟨hw, t', ht', hk⟩
            · obtain ⟨s, hs, hk⟩ := someK_iff hk
              split at hk
              case h_2 => exact hk.elim
              rename_i hsure
              obtain ⟨v, hv1, hv2⟩ := loadS_sound hT H hs (ev_ok ht x)
              rw [hdst, putDK_eq] at hk
              refine take_first ho hsel' hQ ps'.depth listed (pendOf P PL) a w (I := fun w' => (Instr.loadAt ty (a.eval x)).run P w' = .ok v w') (v := v) hcl hfree' hmem
                (Or.inl ⟨hw, fun w' hw' => by obtain ⟨d0, op0, ty0, p0, af0, g0⟩ := o; simp only at hop; subst hop; simp [execOp, hw']⟩) hv2 (fun k => hLR.pend k) ?_
              refine wpAnyS_weaken _ (fun k w' hpk => ?_) (ih _ (i :: taken) ps' ((i, ty, evS t x, s) :: L) ((i, ty, a.eval x, v) :: PL) _ h ν _ w K hps (closed_set hcl hmem) ?_ ?_ H (putD_ok o.dst ht' hv1) (by rw [put_defers]; exact hd) hk hq)
              · exact ⟨fun hki => hpk (i, ty, a.eval x, v) (by simp) hki.symm, fun p hp hk => hpk p (by simp [hp]) hk⟩
              · intro y hy
                rcases List.mem_cons.1 hy with rfl | hy
                · simp
                · simp [hLt y hy]
              · simp only [LRel]
                exact ⟨_, _, _, rfl, ev_ok ht x, hv1, hsure, hv2, hLR⟩
            · rw [hdst, putDK_eq] at hk
              refine take_first ho hsel' hQ ps'.depth listed (pendOf P PL) a w (I := fun _ => True) (v := undef) hcl hfree' hmem (Or.inr ⟨hw, rfl⟩) trivial (fun k => hLR.pend k) ?_
              exact wpAnyS_weaken _ (fun k w' hpk => ⟨fun _ => trivial, hpk⟩) (ih _ (i :: taken) ps' L PL _ h ν _ w K hps (closed_set hcl hmem) (fun y hy => by simp [hLt y hy]) hLR H (putD_ok o.dst ht' (by simp only [S.ok])) (by rw [put_defers]; exact hd) hk hq)
          | _ => rw [hop] at hload; simp [isLoad] at hload
        · -- a pure one
          have hnl : isLoad o.op = false := by
            cases hop : o.op with
            | load ty x => rw [hop] at hpure; simp [isPure] at hpure
            | _ => rfl
          rw [hnl] at hps
          simp only [Bool.false_eq_true, if_false] at hps
          have hlo : stepT ops.toList i o ps' = .take i (coP ops.toList o) ps' := by
            unfold stepT
            cases hop : o.op with
            | load ty x => rw [hop] at hnl; simp [isLoad] at hnl
            | _ => rfl
          rw [hlo] at hk ⊢
          simp only [execT_take] at hk
          have hk' : runG (std W) tt callK (coP ops.toList o) t h (fun t' h' _ => execT (std W) tt callK ps' t' h' L K) := hk
          obtain ⟨v, s, t', h2, hy, hk2, hl2, H2, ht'⟩ := runG_pure hT hpure H ht hk'
          refine take_first ho hsel' hQ ps'.depth listed (pendOf P PL) a w (I := fun _ => True) (v := v) hcl hfree' hmem hy trivial (fun k => hLR.pend k) ?_
          exact wpAnyS_weaken _ (fun k w' hpk => ⟨fun _ => trivial, hpk⟩) (ih _ taken ps' L PL t' h2 ν _ w K hps (closed_set hcl hmem) hLt (by rw [hl2]; exact hLR) H2 (by rw [hl2]; exact ht') (by rw [put_defers]; exact hd) hk2 (by rw [hl2]; exact hq))
      · -- each that is ready
        split at hp
        case isFalse => cases hp
        have hall := forks_exec hp hk
        have hsucc : ∃ d, ps.depth = d + 1 := by
          obtain ⟨p0, hp0, _, hd0⟩ := hall r (by simp)
          split at hp0
          case h_2 => cases hp0
          split at hp0
          case h_2 => cases hp0
          simp only [Option.some.injEq] at hp0
          subst hp0
          exact ⟨_, hd0.symm⟩
        obtain ⟨d, hds⟩ := hsucc
        rw [hds]
        refine ⟨fun h0 => (by rw [hr] at h0; cases h0), fun j hj => ?_⟩
        obtain ⟨pj, hpj, hk, hdj⟩ := hall j (by rw [← hr]; exact hj)
        split at hpj
        case h_2 => cases hpj
        rename_i o ho
        split at hpj
        case h_2 => cases hpj
        rename_i ps' hps
        simp only [Option.some.injEq] at hpj
        subst hpj
        have hdd : d = ps'.depth := by
          have : ps'.depth + 1 = d + 1 := hdj.trans hds
          omega
        subst hdd
        simp only [execT_one, filtK_eq] at hk
        have fin : ∀ (t' : List S) (h' : List Ob) (ν' : Nat → Env) (s : S) (a' : Act) (w' : World), GPost W w0 S0 ν h.length (fun t' h' _ => checkL (std W) tt (L.filter fun x => (taken.filter fun l => !(ms.getD j 0).testBit l).contains x.1) h' (execT (std W) tt callK ps' t' h' (L.filter fun x => (taken.filter fun l => !(ms.getD j 0).testBit l).contains x.1) K)) a' w' t' h' ν' s →
            (∀ k, ¬ Desc ops k j → pendOf P PL k w') ∧ wpAnyS P ops Q ps'.depth (listed.setIfInBounds j true) (fun k w => ¬ Desc ops k j → pendOf P PL k w) a' w' := by
          intro t' h' ν' s a' w' g
          obtain ⟨hc1, hc2⟩ := checkL_iff g.k
          have hLR' := hLR.step hT g.hok g.ext g.le (fun k => (taken.filter fun l => !(ms.getD j 0).testBit l).contains k) hc1
          have hkeep : ∀ p ∈ PL, ¬ Desc ops p.1 j → p ∈ PL.filter fun p => (taken.filter fun l => !(ms.getD j 0).testBit l).contains p.1 := by
            intro p hp hnd
            obtain ⟨x, hx, he⟩ := hLR.idx p hp
            have h1 := hLt x hx
            rw [he] at h1
            refine List.mem_filter.2 ⟨hp, ?_⟩
            simp only [List.contains_eq_mem, List.mem_filter, Bool.not_eq_true', decide_eq_true_eq]
            refine ⟨h1, ?_⟩
            cases hb : (ms.getD j 0).testBit p.1 with
            | false => rfl
            | true => exact absurd (hms j p.1 hb) hnd
          refine ⟨fun k hk p hp hpk => ?_, ?_⟩
          · subst hpk
            exact hLR'.pend p.1 p (hkeep p hp hk) rfl
          · refine wpAnyS_weaken _ (fun k w2 hpk hnd p hp hpe => ?_) (ih _ _ ps' _ _ t' h' ν' a' w' K hps (closed_set hcl hj) ?_ hLR' g.hok g.tok g.def_ hc2 fun st ν'' a'' w'' k1 k2 k3 k4 k5 k6 => hq st ν'' a'' w'' k1 (Nat.le_trans g.le k2) (fun i hi => (k3 i (Nat.lt_of_lt_of_le hi g.le)).trans (g.ext i hi)) k4 k5 k6)
            · subst hpe
              exact hpk p (hkeep p hp hnd) rfl
            · intro x hx
              have := (List.mem_filter.1 hx).2
              simpa using this
        unfold wpOp
        simp only [ho]
        rcases runG_sound hT hcall H ht hd hk with ⟨h1, h2⟩ | ⟨h1, t', g⟩
        · rw [if_pos h1]
          exact .inl (h2 _ Q fun t' h' ν' s v a' w' _ g => fin t' h' ν' s a' w' g)
        · rw [if_neg (by rw [h1]; decide)]
          exact fin t' h ν .un _ _ g
end
end Go.SX
