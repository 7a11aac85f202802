/- What Go functions come to (lifted). -/
import Derived.Test.YtbkegflipglioaaGreatAsJ
set_option maxRecDepth 20000
namespace Go.SX.Y
open Go.Proofs Go.RowKit
noncomputable def Mo.alarmSets_v1 (div : Int) (sec : Int) (ticks : Int) (gap : Int) : Bool := (if ((Mo.dNew_g1 (adw 1 (rmw div 1000))) = true) then false else (if ((iE (Mo.Rt.sec (Mo.Bd.t (Mo.dTick_v1 (rmq ticks 1099511627776) (Mo.aSetG_v1 (rmq sec 1125899906842624) (rmw gap 100) (Mo.dWire_v1 (Mo.Bd.mk (Mo.kReset_v1 (Mo.Cl.mk 0 0 0 0 0 0 0 0 0 0 0 0 0 0 0 0 0 1)) (Mo.Wd.mk false false false 0 0 0 0) (Mo.Rt.mk 0 0 0 0 false false (adw 1 (rmw div 1000))) (Mo.Rs.mk 1 0 0 1 false) (Mo.Ln.mk 0 0) (Mo.Cnt.mk 0 0 0 0 0))))))) (adq (rmq sec 1125899906842624) (quq (rmq ticks 1099511627776) (cvq (adw 1 (rmw div 1000)) 0)))) = true) then (if ((iM (Mo.Rt.sec (Mo.Bd.t (Mo.dTick_v1 (rmq ticks 1099511627776) (Mo.aSetG_v1 (rmq sec 1125899906842624) (rmw gap 100) (Mo.dWire_v1 (Mo.Bd.mk (Mo.kReset_v1 (Mo.Cl.mk 0 0 0 0 0 0 0 0 0 0 0 0 0 0 0 0 0 1)) (Mo.Wd.mk false false false 0 0 0 0) (Mo.Rt.mk 0 0 0 0 false false (adw 1 (rmw div 1000))) (Mo.Rs.mk 1 0 0 1 false) (Mo.Ln.mk 0 0) (Mo.Cnt.mk 0 0 0 0 0))))))) (Mo.aSecG_v1 (rmw gap 100) (Mo.dTick_v1 (rmq ticks 1099511627776) (Mo.aSetG_v1 (rmq sec 1125899906842624) (rmw gap 100) (Mo.dWire_v1 (Mo.Bd.mk (Mo.kReset_v1 (Mo.Cl.mk 0 0 0 0 0 0 0 0 0 0 0 0 0 0 0 0 0 1)) (Mo.Wd.mk false false false 0 0 0 0) (Mo.Rt.mk 0 0 0 0 false false (adw 1 (rmw div 1000))) (Mo.Rs.mk 1 0 0 1 false) (Mo.Ln.mk 0 0) (Mo.Cnt.mk 0 0 0 0 0))))))) = true) then (iM (Mo.aSecG_v1 (rmw gap 100) (Mo.dTick_v1 (rmq ticks 1099511627776) (Mo.aSetG_v1 (rmq sec 1125899906842624) (rmw gap 100) (Mo.dWire_v1 (Mo.Bd.mk (Mo.kReset_v1 (Mo.Cl.mk 0 0 0 0 0 0 0 0 0 0 0 0 0 0 0 0 0 1)) (Mo.Wd.mk false false false 0 0 0 0) (Mo.Rt.mk 0 0 0 0 false false (adw 1 (rmw div 1000))) (Mo.Rs.mk 1 0 0 1 false) (Mo.Ln.mk 0 0) (Mo.Cnt.mk 0 0 0 0 0)))))) (Mo.Rt.sec (Mo.Bd.t (Mo.aSecG_v4 (rmw gap 100) (Mo.dTick_v1 (rmq ticks 1099511627776) (Mo.aSetG_v1 (rmq sec 1125899906842624) (rmw gap 100) (Mo.dWire_v1 (Mo.Bd.mk (Mo.kReset_v1 (Mo.Cl.mk 0 0 0 0 0 0 0 0 0 0 0 0 0 0 0 0 0 1)) (Mo.Wd.mk false false false 0 0 0 0) (Mo.Rt.mk 0 0 0 0 false false (adw 1 (rmw div 1000))) (Mo.Rs.mk 1 0 0 1 false) (Mo.Ln.mk 0 0) (Mo.Cnt.mk 0 0 0 0 0))))))))) else false) else false))
noncomputable def Mo.alarmSets_pre (div : Int) (sec : Int) (ticks : Int) (gap : Int) : Prop := ((Mo.dNew_pre (adw 1 (rmw div 1000))) ∧ (if ((Mo.dNew_g1 (adw 1 (rmw div 1000))) = true) then True else ((Mo.aSetG_pre (rmq sec 1125899906842624) 0 0 (rmw gap 100) (Mo.dWire_v1 (Mo.Bd.mk (Mo.kReset_v1 (Mo.Cl.mk 0 0 0 0 0 0 0 0 0 0 0 0 0 0 0 0 0 1)) (Mo.Wd.mk false false false 0 0 0 0) (Mo.Rt.mk 0 0 0 0 false false (adw 1 (rmw div 1000))) (Mo.Rs.mk 1 0 0 1 false) (Mo.Ln.mk 0 0) (Mo.Cnt.mk 0 0 0 0 0)))) ∧ ((Mo.dTick_pre (rmq ticks 1099511627776) (Mo.aSetG_v1 (rmq sec 1125899906842624) (rmw gap 100) (Mo.dWire_v1 (Mo.Bd.mk (Mo.kReset_v1 (Mo.Cl.mk 0 0 0 0 0 0 0 0 0 0 0 0 0 0 0 0 0 1)) (Mo.Wd.mk false false false 0 0 0 0) (Mo.Rt.mk 0 0 0 0 false false (adw 1 (rmw div 1000))) (Mo.Rs.mk 1 0 0 1 false) (Mo.Ln.mk 0 0) (Mo.Cnt.mk 0 0 0 0 0))))) ∧ ((Mo.aSecG_pre (adi (adi 0 1) 1) (Mo.pStoreG12_v1 (Mo.pStoreG8_v1 0 (rmw gap 100)) (rmw gap 100)) (rmw gap 100) (Mo.dTick_v1 (rmq ticks 1099511627776) (Mo.aSetG_v1 (rmq sec 1125899906842624) (rmw gap 100) (Mo.dWire_v1 (Mo.Bd.mk (Mo.kReset_v1 (Mo.Cl.mk 0 0 0 0 0 0 0 0 0 0 0 0 0 0 0 0 0 1)) (Mo.Wd.mk false false false 0 0 0 0) (Mo.Rt.mk 0 0 0 0 false false (adw 1 (rmw div 1000))) (Mo.Rs.mk 1 0 0 1 false) (Mo.Ln.mk 0 0) (Mo.Cnt.mk 0 0 0 0 0)))))) ∧ (if ((iN (cvq (adw 1 (rmw div 1000)) 0) 0) = true) then True else False))))))
noncomputable def alarmSets_tree (div : Int) (sec : Int) (ticks : Int) (gap : Int) (K : S → List Ob → Prop) : Prop := (((1 : Int) = 1) ∧ (((1 : Int) = 1) ∧ ((Mo.dNew_pre (adw 1 (rmw div 1000))) ∧ (if ((Mo.dNew_g1 (adw 1 (rmw div 1000))) = true) then K (.bv false) [] else (((1 : Int) = 1) ∧ (((1 : Int) = 1) ∧ (True ∧ (((1 : Int) = 1) ∧ (((1 : Int) = 1) ∧ (((0 : Int) = 0) ∧ ((Mo.aSetG_pre (rmq sec 1125899906842624) 0 0 (rmw gap 100) (Mo.dWire_v1 (Mo.Bd.mk (Mo.kReset_v1 (Mo.Cl.mk 0 0 0 0 0 0 0 0 0 0 0 0 0 0 0 0 0 1)) (Mo.Wd.mk false false false 0 0 0 0) (Mo.Rt.mk 0 0 0 0 false false (adw 1 (rmw div 1000))) (Mo.Rs.mk 1 0 0 1 false) (Mo.Ln.mk 0 0) (Mo.Cnt.mk 0 0 0 0 0)))) ∧ (((1 : Int) = 1) ∧ (((1 : Int) = 1) ∧ ((Mo.dTick_pre (rmq ticks 1099511627776) (Mo.aSetG_v1 (rmq sec 1125899906842624) (rmw gap 100) (Mo.dWire_v1 (Mo.Bd.mk (Mo.kReset_v1 (Mo.Cl.mk 0 0 0 0 0 0 0 0 0 0 0 0 0 0 0 0 0 1)) (Mo.Wd.mk false false false 0 0 0 0) (Mo.Rt.mk 0 0 0 0 false false (adw 1 (rmw div 1000))) (Mo.Rs.mk 1 0 0 1 false) (Mo.Ln.mk 0 0) (Mo.Cnt.mk 0 0 0 0 0))))) ∧ (((1 : Int) = 1) ∧ (((1 : Int) = 1) ∧ (True ∧ (((1 : Int) = 1) ∧ (((1 : Int) = 1) ∧ (((0 : Int) = 0) ∧ ((Mo.aSecG_pre (adi (adi 0 1) 1) (Mo.pStoreG12_v1 (Mo.pStoreG8_v1 0 (rmw gap 100)) (rmw gap 100)) (rmw gap 100) (Mo.dTick_v1 (rmq ticks 1099511627776) (Mo.aSetG_v1 (rmq sec 1125899906842624) (rmw gap 100) (Mo.dWire_v1 (Mo.Bd.mk (Mo.kReset_v1 (Mo.Cl.mk 0 0 0 0 0 0 0 0 0 0 0 0 0 0 0 0 0 1)) (Mo.Wd.mk false false false 0 0 0 0) (Mo.Rt.mk 0 0 0 0 false false (adw 1 (rmw div 1000))) (Mo.Rs.mk 1 0 0 1 false) (Mo.Ln.mk 0 0) (Mo.Cnt.mk 0 0 0 0 0)))))) ∧ (((1 : Int) = 1) ∧ (((1 : Int) = 1) ∧ (True ∧ (if ((iN (cvq (adw 1 (rmw div 1000)) 0) 0) = true) then (if ((iE (Mo.Rt.sec (Mo.Bd.t (Mo.dTick_v1 (rmq ticks 1099511627776) (Mo.aSetG_v1 (rmq sec 1125899906842624) (rmw gap 100) (Mo.dWire_v1 (Mo.Bd.mk (Mo.kReset_v1 (Mo.Cl.mk 0 0 0 0 0 0 0 0 0 0 0 0 0 0 0 0 0 1)) (Mo.Wd.mk false false false 0 0 0 0) (Mo.Rt.mk 0 0 0 0 false false (adw 1 (rmw div 1000))) (Mo.Rs.mk 1 0 0 1 false) (Mo.Ln.mk 0 0) (Mo.Cnt.mk 0 0 0 0 0))))))) (adq (rmq sec 1125899906842624) (quq (rmq ticks 1099511627776) (cvq (adw 1 (rmw div 1000)) 0)))) = true) then (if ((iM (Mo.Rt.sec (Mo.Bd.t (Mo.dTick_v1 (rmq ticks 1099511627776) (Mo.aSetG_v1 (rmq sec 1125899906842624) (rmw gap 100) (Mo.dWire_v1 (Mo.Bd.mk (Mo.kReset_v1 (Mo.Cl.mk 0 0 0 0 0 0 0 0 0 0 0 0 0 0 0 0 0 1)) (Mo.Wd.mk false false false 0 0 0 0) (Mo.Rt.mk 0 0 0 0 false false (adw 1 (rmw div 1000))) (Mo.Rs.mk 1 0 0 1 false) (Mo.Ln.mk 0 0) (Mo.Cnt.mk 0 0 0 0 0))))))) (Mo.aSecG_v1 (rmw gap 100) (Mo.dTick_v1 (rmq ticks 1099511627776) (Mo.aSetG_v1 (rmq sec 1125899906842624) (rmw gap 100) (Mo.dWire_v1 (Mo.Bd.mk (Mo.kReset_v1 (Mo.Cl.mk 0 0 0 0 0 0 0 0 0 0 0 0 0 0 0 0 0 1)) (Mo.Wd.mk false false false 0 0 0 0) (Mo.Rt.mk 0 0 0 0 false false (adw 1 (rmw div 1000))) (Mo.Rs.mk 1 0 0 1 false) (Mo.Ln.mk 0 0) (Mo.Cnt.mk 0 0 0 0 0))))))) = true) then K (.bv (iM (Mo.aSecG_v1 (rmw gap 100) (Mo.dTick_v1 (rmq ticks 1099511627776) (Mo.aSetG_v1 (rmq sec 1125899906842624) (rmw gap 100) (Mo.dWire_v1 (Mo.Bd.mk (Mo.kReset_v1 (Mo.Cl.mk 0 0 0 0 0 0 0 0 0 0 0 0 0 0 0 0 0 1)) (Mo.Wd.mk false false false 0 0 0 0) (Mo.Rt.mk 0 0 0 0 false false (adw 1 (rmw div 1000))) (Mo.Rs.mk 1 0 0 1 false) (Mo.Ln.mk 0 0) (Mo.Cnt.mk 0 0 0 0 0)))))) (Mo.Rt.sec (Mo.Bd.t (Mo.aSecG_v4 (rmw gap 100) (Mo.dTick_v1 (rmq ticks 1099511627776) (Mo.aSetG_v1 (rmq sec 1125899906842624) (rmw gap 100) (Mo.dWire_v1 (Mo.Bd.mk (Mo.kReset_v1 (Mo.Cl.mk 0 0 0 0 0 0 0 0 0 0 0 0 0 0 0 0 0 1)) (Mo.Wd.mk false false false 0 0 0 0) (Mo.Rt.mk 0 0 0 0 false false (adw 1 (rmw div 1000))) (Mo.Rs.mk 1 0 0 1 false) (Mo.Ln.mk 0 0) (Mo.Cnt.mk 0 0 0 0 0)))))))))) [] else K (.bv false) []) else K (.bv false) []) else False)))))))))))))))))))))))))
theorem alarmSets_run (div : Int) (sec : Int) (ticks : Int) (gap : Int) (K : S → List Ob → Prop) : callL (std noW) tt ffAsJ stopAsJ noL 200 4 [.iv .u32 div, .iv .u64 sec, .iv .u64 ticks, .iv .u32 gap] [] (gcK 0 (ivK true K)) = alarmSets_tree div sec ticks gap K := by kernel_rfl
noncomputable def alarmSets_T (div : Int) (sec : Int) (ticks : Int) (gap : Int) (K : S → List Ob → Prop) : Prop := Mo.alarmSets_pre div sec ticks gap ∧ K (.bv (Mo.alarmSets_v1 div sec ticks gap)) []
theorem alarmSets_all (div : Int) (sec : Int) (ticks : Int) (gap : Int) (K : S → List Ob → Prop) (h : alarmSets_T div sec ticks gap K) : alarmSets_tree div sec ticks gap K := by
  unfold alarmSets_T at h; obtain ⟨h0, h⟩ := h; unfold alarmSets_tree
  try simp only [Mo.alarmSets_v1] at h0 h
  try simp only [Mo.alarmSets_pre] at h0 h
  refine ⟨rfl, ?_⟩
  refine ⟨rfl, ?_⟩
  refine ⟨h0.1, ?_⟩; replace h0 := h0.2
  refine ite_intro (fun c0 => ?_) (fun c0 => ?_)
  try simp only [if_pos c0] at h0 h
  first | exact h | contradiction | (simp only [if_true, if_false, Bool.false_eq_true] at h; exact h)
  try simp only [if_neg c0] at h0 h
  refine ⟨rfl, ?_⟩
  refine ⟨rfl, ?_⟩
  refine ⟨?_, ?_⟩
  trivial
  refine ⟨rfl, ?_⟩
  refine ⟨rfl, ?_⟩
  refine ⟨rfl, ?_⟩
  refine ⟨h0.1, ?_⟩; replace h0 := h0.2
  refine ⟨rfl, ?_⟩
  refine ⟨rfl, ?_⟩
  refine ⟨h0.1, ?_⟩; replace h0 := h0.2
  refine ⟨rfl, ?_⟩
  refine ⟨rfl, ?_⟩
  refine ⟨?_, ?_⟩
  trivial
  refine ⟨rfl, ?_⟩
  refine ⟨rfl, ?_⟩
  refine ⟨rfl, ?_⟩
  refine ⟨h0.1, ?_⟩; replace h0 := h0.2
  refine ⟨rfl, ?_⟩
  refine ⟨rfl, ?_⟩
  refine ⟨?_, ?_⟩
  trivial
  refine ite_intro (fun c1 => ?_) (fun c1 => ?_)
  try simp only [if_pos c1] at h0 h
  refine ite_intro (fun c2 => ?_) (fun c2 => ?_)
  try simp only [if_pos c2] at h0 h
  refine ite_intro (fun c3 => ?_) (fun c3 => ?_)
  try simp only [if_pos c3] at h0 h
  first | exact h | contradiction | (simp only [if_true, if_false, Bool.false_eq_true] at h; exact h)
  try simp only [if_neg c3] at h0 h
  first | exact h | contradiction | (simp only [if_true, if_false, Bool.false_eq_true] at h; exact h)
  try simp only [if_neg c2] at h0 h
  first | exact h | contradiction | (simp only [if_true, if_false, Bool.false_eq_true] at h; exact h)
  exact False.elim (by first | contradiction | (simp only [if_neg c1] at h0))
theorem alarmSets_sem (div : Int) (sec : Int) (ticks : Int) (gap : Int) (K : S → List Ob → Prop) (h : alarmSets_T div sec ticks gap K) : CallSem noW Tryz.prog 4 [.iv .u32 div, .iv .u64 sec, .iv .u64 ticks, .iv .u32 gap] [] K := iv_call (callL_ok tok (by kernel_rfl) ffAsJok stopAsJ_ok _ _ _ _ (Eq.mpr (alarmSets_run div sec ticks gap K) (alarmSets_all div sec ticks gap K h)))
noncomputable def alarmSets_con : Con := ⟨[.int .u32, .int .u64, .int .u64, .int .u32], [], fun a K => match a with | ⟨[div, sec, ticks, gap], [], [], []⟩ => alarmSets_T div sec ticks gap K | _ => False⟩
theorem alarmSets_ok : alarmSets_con.ok noW Tryz.prog 4 := by
  intro a K h
  simp only [alarmSets_con] at h
  split at h
  · exact alarmSets_sem _ _ _ _ K h
  · exact h.elim
noncomputable def tabAsK (n : Nat) : List Con := match Nat.beq n 4 with | true => [alarmSets_con] | false => tabAsJ n
theorem tabAsK_ok : ∀ f, ∀ c ∈ tabAsK f, c.ok noW Tryz.prog f := by
  intro f c hc
  unfold tabAsK at hc
  split at hc
  · rename_i hf; have := Nat.eq_of_beq_eq_true hf; subst this
    simp only [List.mem_cons, List.not_mem_nil, or_false] at hc
    subst hc; exact alarmSets_ok
  exact tabAsJ_ok f c hc
noncomputable def ffAsK (n : Nat) : Option FI := match Nat.beq n 4 with | true => none | false => ffAsJ n
theorem ffAsKok : FOk Tryz.prog ffAsK := fun f fi hf => by
  unfold ffAsK at hf
  split at hf
  · cases hf
  exact ffAsJok f fi hf
noncomputable def stopAsK : CallT := stopC tabAsK stopB
theorem stopAsK_ok : ∀ f args h K, stopAsK f args h K → CallSem noW Tryz.prog f args h K := stopC_ok tabAsK_ok stopB_ok
end Go.SX.Y
