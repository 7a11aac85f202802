/- SX: regions that draw their order. -/
import Derived.Test.YtbkegflipglioaaGreatSX10
namespace Go.SX
open Go.RowKit
/-- i stands ahead of j, by edges. -/
inductive Desc (ops : Array Oper) (i : Nat) : Nat → Prop
  | one {j : Nat} {o : Oper} {e : Edge} (ho : ops[j]? = some o) (he : e ∈ o.after) (hb : Region.binds .any e = true) (h : e.on = i) : Desc ops i j
  | more {j : Nat} {o : Oper} {e : Edge} (ho : ops[j]? = some o) (he : e ∈ o.after) (hb : Region.binds .any e = true) (h : Desc ops i e.on) : Desc ops i j
def Closed (ops : Array Oper) (listed : Array Bool) : Prop := ∀ j, listed.getD j false = true → ∀ o, ops[j]? = some o → ∀ e ∈ o.after, Region.binds .any e = true → listed.getD e.on false = true
theorem desc_listed {ops : Array Oper} {listed : Array Bool} (hc : Closed ops listed) {i j : Nat} (hd : Desc ops i j) : (∀ o, ops[j]? = some o → ∀ e ∈ o.after, Region.binds .any e = true → listed.getD e.on false = true) → listed.getD i false = true := by
  induction hd with
  | one ho he hb h => intro hj; rw [← h]; exact hj _ ho _ he hb
  | more ho he hb h ih => intro hj; exact ih (hc _ (hj _ ho _ he hb))
theorem ready_not_desc {ops : Array Oper} {listed : Array Bool} (hc : Closed ops listed) {i j : Nat} (hj : j ∈ Region.ready .any ops listed) (hi : listed.getD i true = false) : ¬ Desc ops i j := by
  intro hd
  obtain ⟨_, o, ho, hall⟩ := mem_ready.1 hj
  have h1 := desc_listed hc hd (fun o' ho' e he hb => by rw [ho] at ho'; cases ho'; exact hall e he hb)
  rcases Nat.lt_or_ge i listed.size with h | h
  · simp [h] at hi h1; rw [hi] at h1; cases h1
  · simp [Array.getElem?_eq_none h] at hi
theorem closed_set {ops : Array Oper} {listed : Array Bool} (hc : Closed ops listed) {j : Nat} (hj : j ∈ Region.ready .any ops listed) : Closed ops (listed.setIfInBounds j true) := by
  intro k hk o ho e he hb
  refine getD_set_true ?_
  by_cases hkj : j = k
  · subst hkj
    obtain ⟨_, o', ho', hall⟩ := mem_ready.1 hj
    rw [ho] at ho'; cases ho'
    exact hall e he hb
  · rw [getD_set_ne false hkj] at hk
    exact hc k hk o ho e he hb

section
variable {W : Addr → Nat → Nat → Option (List S)}
variable {P : Program} {ops : Array Oper} {Q : Exit → Act → World → Prop}
/-- Any order; 'pend k' holds behind every operation that k does not stand ahead of. -/
def wpAnyS (P : Program) (ops : Array Oper) (Q : Exit → Act → World → Prop) : Nat → Array Bool → (Nat → World → Prop) → Act → World → Prop
  | 0, listed, _, a, w => Region.ready .any ops listed = [] ∧ Q .normal a w
  | n + 1, listed, pend, a, w => (Region.ready .any ops listed = [] → Q .normal a w) ∧
    ∀ j ∈ Region.ready .any ops listed, wpOp P ops Q j (fun a' w' => (∀ k, ¬ Desc ops k j → pend k w') ∧ wpAnyS P ops Q n (listed.setIfInBounds j true) (fun k w => ¬ Desc ops k j → pend k w) a' w') a w
theorem wpAnyS_weaken : ∀ (n : Nat) {listed : Array Bool} {p q : Nat → World → Prop} {a : Act} {w : World}, (∀ k w, p k w → q k w) → wpAnyS P ops Q n listed p a w → wpAnyS P ops Q n listed q a w
  | 0, _, _, _, _, _, _, h => h
  | n + 1, _, _, _, _, _, hpq, h => ⟨h.1, fun j hj => wpOp_mono (fun _ w' h2 => ⟨fun k hk => hpq k w' (h2.1 k hk), wpAnyS_weaken n (fun k w h3 hk => hpq k w (h3 hk)) h2.2⟩) (h.2 j hj)⟩
theorem wpAnyS_any : ∀ (n : Nat) {listed : Array Bool} {p : Nat → World → Prop} {a : Act} {w : World}, wpAnyS P ops Q n listed p a w → wpAny P .any ops Q n listed a w
  | 0, _, _, _, _, h => h
  | n + 1, _, _, _, _, h => ⟨h.1, fun j hj => wpOp_mono (fun _ _ h2 => wpAnyS_any n h2.2) (h.2 j hj)⟩
/-- The operation yields v in the worlds of which I holds. -/
def YieldsI (P : Program) (ops : Array Oper) (o : Oper) (I : World → Prop) (v : Value) (a : Act) : Prop :=
  (Region.wanted o (yielded ops a.tmps) = true ∧ ∀ w, I w → (execOp a.eval o).run P w = .ok (.value v) w) ∨ (Region.wanted o (yielded ops a.tmps) = false ∧ v = undef)
theorem YieldsI.wpOp {i : Nat} {o : Oper} {I : World → Prop} {v : Value} {a : Act} (hi : ops[i]? = some o) (hy : YieldsI P ops o I v a) {K : Act → World → Prop} {w : World} (hw : I w) (h : K (a.put o.dst v) w) : wpOp P ops Q i K a w := by
  unfold Go.wpOp
  simp only [hi]
  rcases hy with ⟨h1, hv⟩ | ⟨h1, rfl⟩
  · simp only [h1, if_true, Oper.wp, hv w hw, Oper.upon]; exact .inl h
  · simp only [h1, Bool.false_eq_true, if_false]; exact h
theorem YieldsI.of_same {o : Oper} {I : World → Prop} {v : Value} {a a' : Act} (hy : YieldsI P ops o I v a) (he : execOp a'.eval o = execOp a.eval o) (hw : Region.wanted o (yielded ops a'.tmps) = Region.wanted o (yielded ops a.tmps)) : YieldsI P ops o I v a' := by
  unfold YieldsI at *
  rw [he, hw]
  exact hy
theorem wpOp_putI {j : Nat} {oi oj : Oper} {I : World → Prop} {v : Value} (hj : ops[j]? = some oj) (hap : oi.apart ops oj = true) (hsi : ∀ cs b, oi.op ≠ .select cs b) (hsj : ∀ cs b, oj.op ≠ .select cs b)
    (hQ : ∀ c a w, ¬ Q (.panic c) a w) {K : Act → World → Prop} {a : Act} {w : World} (hy : YieldsI P ops oi I v a) (h : wpOp P ops Q j K (a.put oi.dst v) w) :
    wpOp P ops Q j (fun a' w' => YieldsI P ops oi I v a' ∧ K (a'.put oi.dst v) w') a w := by
  obtain ⟨h1, h2, h3⟩ := Oper.apart_spec hap
  have keep : ∀ (a : Act), YieldsI P ops oi I v a → ∀ u, YieldsI P ops oi I v (a.put oj.dst u) := fun a hy u => hy.of_same (execOp_put oi hsi a oj.dst u h3) (wanted_put oi a oj.dst u h3)
  have keepD : ∀ d, YieldsI P ops oi I v { a with defers := d :: a.defers } := fun d => hy.of_same rfl rfl
  unfold wpOp at *
  simp only [hj] at *
  rw [wanted_put oj a oi.dst v h1] at h
  split
  · rename_i hw
    simp only [hw, if_true] at h
    rcases h with h | ⟨hasks, hlets⟩
    case inr => exact .inr ⟨by unfold Oper.asks at *; rw [execOp_put oj hsj a oi.dst v h1] at hasks; exact hasks, hlets⟩
    refine .inl ?_
    unfold Oper.wp at *
    rw [execOp_put oj hsj a oi.dst v h1] at h
    generalize (execOp a.eval oj).run P w = r at *
    cases r with
    | ok n w' =>
      cases n <;> simp only [Oper.upon] at h ⊢
      case value u => exact ⟨keep a hy u, by rw [← Act.put_comm a v u h2]; exact h⟩
      case skip => exact ⟨keep a hy _, by rw [← Act.put_comm a v undef h2]; exact h⟩
      case defer d =>
        refine ⟨keep _ (keepD d) _, ?_⟩
        rw [← Act.put_comm _ v undef h2, ← Act.put_defers]
        exact h
      case enter f args =>
        refine Calls.mono h fun e w'' he => ?_
        cases e with
        | returned u => exact ⟨keep a hy u, by rw [← Act.put_comm a v u h2]; exact he⟩
        | panicked c => exact (hQ _ _ _ he).elim
        | outgrown => exact he
      case row row args => exact Rows.mono h fun u w'' he => ⟨keep a hy u, by rw [← Act.put_comm a v u h2]; exact he⟩
    | halt x w' =>
      cases x <;> simp only [Oper.upon] at h ⊢
      case panic u => exact (hQ _ _ _ h).elim
  · rename_i hw
    simp only [hw] at h
    exact ⟨keep a hy _, by rw [← Act.put_comm a v undef h2]; exact h⟩
/-- What yields the same while I holds may be taken ahead. -/
theorem take_first {i : Nat} {oi : Oper} {I : World → Prop} {v : Value} (hi : ops[i]? = some oi) (hsel : ∀ (j : Nat) (o : Oper) cs b, ops[j]? = some o → o.op ≠ .select cs b) (hQ : ∀ c a w, ¬ Q (.panic c) a w) :
    ∀ (fuel : Nat) (listed : Array Bool) (pend : Nat → World → Prop) (a : Act) (w : World), Closed ops listed →
      (∀ j oj, ops[j]? = some oj → j ≠ i → listed.getD j true = false → (∀ e ∈ oj.after, Region.binds .any e = true → e.on ≠ i) → oi.apart ops oj = true) →
      i ∈ Region.ready .any ops listed → YieldsI P ops oi I v a → I w → (∀ k, pend k w) →
      wpAnyS P ops Q fuel (listed.setIfInBounds i true) (fun k w => (k = i → I w) ∧ pend k w) (a.put oi.dst v) w → wpAnyS P ops Q (fuel + 1) listed pend a w := by
  intro fuel
  induction fuel with
  | zero =>
    intro listed pend a w _ _ hr hy hI hp H
    refine ⟨fun h => (by rw [h] at hr; cases hr), fun j hj => ?_⟩
    by_cases hji : j = i
    · subst hji; exact hy.wpOp hi hI ⟨fun k _ => hp k, H⟩
    · have := ready_mono hj hji
      rw [H.1] at this
      cases this
  | succ fuel ih =>
    intro listed pend a w hcl hfree hr hy hI hp H
    refine ⟨fun h => (by rw [h] at hr; cases hr), fun j hj => ?_⟩
    by_cases hji : j = i
    · subst hji
      exact hy.wpOp hi hI ⟨fun k _ => hp k, wpAnyS_weaken _ (fun k w h _ => h.2) H⟩
    · have h1 := H.2 j (ready_mono hj hji)
      obtain ⟨hjun, oj, hoj, hall⟩ := mem_ready.1 hj
      have hun := (mem_ready.1 hr).1
      have hnd : ¬ Desc ops i j := ready_not_desc hcl hj hun
      have hnot : ∀ e ∈ oj.after, Region.binds .any e = true → e.on ≠ i := fun e he hb heq => hnd (.one hoj he hb heq)
      have h2 := wpOp_putI hoj (hfree j oj hoj hji hjun hnot) (fun cs b => hsel i oi cs b hi) (fun cs b => hsel j oj cs b hoj) hQ hy h1
      have hfree' : ∀ k ok, ops[k]? = some ok → k ≠ i → (listed.setIfInBounds j true).getD k true = false →
          (∀ e ∈ ok.after, Region.binds .any e = true → e.on ≠ i) → oi.apart ops ok = true := fun k ok hk hki hun hno => by
        refine hfree k ok hk hki ?_ hno
        by_cases hjk : j = k
        · subst hjk; exact hjun
        · rw [getD_set_ne true hjk] at hun; exact hun
      refine wpOp_mono (fun a' w' h3 => ?_) h2
      obtain ⟨h4, h5, h6⟩ := h3
      refine ⟨fun k hk => (h5 k hk).2, ?_⟩
      refine ih (listed.setIfInBounds j true) _ a' w' (closed_set hcl hj) hfree' (ready_mono hr (Ne.symm hji)) h4 ((h5 i hnd).1 rfl) (fun k hk => (h5 k hk).2) ?_
      rw [Array.setIfInBounds_comm _ _ hji]
      refine wpAnyS_weaken _ (fun k w h7 => ?_) h6
      refine ⟨fun hki => ?_, fun hk => (h7 hk).2⟩
      subst hki
      exact (h7 hnd).1 rfl
end
end Go.SX
