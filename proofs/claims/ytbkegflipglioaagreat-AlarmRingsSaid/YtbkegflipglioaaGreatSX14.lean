/- SX: functions; loops. -/
import Derived.Test.YtbkegflipglioaaGreatSX13
namespace Go.SX
open Go.RowKit
section
variable {W : Addr → Nat → Nat → Option (List S)}
variable {P : Program} {tt : Nat → Option TI} {w0 w : World} {S0 : List Nat} {ν : Nat → Env}
def resV (tmps : Array Value) : ResultVar → Sem Value
  | .tmp t => pure (tmps.getD t undef)
  | .cell a t => do loadVar t (← asAddr (tmps.getD a undef))
theorem resS_ok (hT : TOk P tt) {st : St} {a : Act} (H : HOk W w0 S0 ν st.h w) (ht : oks st.h.length ν st.t a.tmps.toList) : ∀ (rs : List ResultVar) {ss : List S}, resS (std W) tt rs st = some ss →
    ∃ vs, oks st.h.length ν ss vs ∧ (rs.mapM (resV a.tmps)).run P w = .ok vs w
  | [], ss, h => by
    simp only [resS, Option.some.injEq] at h
    subst h
    exact ⟨[], oks_nil, by simp⟩
  | r :: rs, ss, h => by
    simp only [resS] at h
    split at h
    case h_2 => cases h
    rename_i s ss' h1 h2
    simp only [Option.some.injEq] at h
    subst h
    obtain ⟨vs, h3, h4⟩ := resS_ok hT H ht rs h2
    have key : ∃ v, s.ok st.h.length ν v ∧ (resV a.tmps r).run P w = .ok v w := by
      clear h2
      cases r with
      | tmp t =>
        simp only [Option.some.injEq] at h1
        subst h1
        have := getT_ok t ht
        exact ⟨_, this, by simp [resV]⟩
      | cell x t =>
        simp only at h1
        have hx := getT_ok x ht
        obtain ⟨u, h5, h6⟩ := loadS_sound hT H h1 hx
        refine ⟨u, h5, ?_⟩
        generalize hg : getT st.t x = g at h1 hx
        cases g with
        | ptr id off =>
          simp only [S.ok] at hx
          obtain ⟨_, hv⟩ := hx
          have hv' : a.tmps.getD x undef = .pointer (some ⟨(ν id).blk, (ν id).base + off.val, none⟩) := by
            rw [← hv]; simp
          rw [hv] at h6
          simp only [Instr.loadAt, Instr.sureAddr, Sem.run_bind, Sem.run_pure, Result.andThen_ok] at h6
          simp only [resV, hv', asAddr, Sem.run_bind, Sem.run_pure, Result.andThen_ok]
          exact h6
        | rp b off =>
          simp only [S.ok] at hx
          have hv' : a.tmps.getD x undef = .pointer (some ⟨b.block, b.off + off.val, none⟩) := by
            rw [← hx]; simp
          rw [hx] at h6
          simp only [Instr.loadAt, Instr.sureAddr, Sem.run_bind, Sem.run_pure, Result.andThen_ok] at h6
          simp only [resV, hv', asAddr, Sem.run_bind, Sem.run_pure, Result.andThen_ok]
          exact h6
        | _ => simp [loadS] at h1
    obtain ⟨v, h5, h6⟩ := key
    exact ⟨v :: vs, oks_cons h5 h3, by simp only [List.mapM_cons, Sem.run_bind, h6, Result.andThen_ok, h4, Sem.run_pure]⟩
theorem retS_ok (hT : TOk P tt) {fn : Func} {st : St} {a : Act} {K : S → List Ob → Prop} (H : HOk W w0 S0 ν st.h w) (ht : oks st.h.length ν st.t a.tmps.toList) (hr : retS (std W) tt fn.results.toList st K) :
    ∃ v s, (results fn a.tmps).run P w = .ok v w ∧ K s st.h ∧ s.ok st.h.length ν v := by
  unfold retS at hr
  have main : ∀ ss, resS (std W) tt fn.results.toList st = some ss → ∃ vs, oks st.h.length ν ss vs ∧ (results fn a.tmps).run P w = .ok (if h : vs.toArray.size = 1 then vs.toArray[0] else .tuple vs.toArray) w := by
    intro ss hs
    obtain ⟨vs, h1, h2⟩ := resS_ok hT H ht _ hs
    refine ⟨vs, h1, ?_⟩
    have hrs : results fn a.tmps = (do let vs ← fn.results.mapM (resV a.tmps); pure (if h : vs.size = 1 then vs[0] else .tuple vs)) := by
      unfold results
      congr 1
    rw [hrs, Array.mapM_eq_mapM_toList]
    simp only [bind_map_left, Sem.run_bind, h2, Result.andThen_ok, Sem.run_pure]
  split at hr
  · rename_i s hs
    obtain ⟨vs, h1, h2⟩ := main _ hs
    simp only [S.oks] at h1
    obtain ⟨v, _, rfl, h3, rfl⟩ := h1
    exact ⟨v, s, by rw [h2]; simp, hr, h3⟩
  · rename_i ss hns hs
    obtain ⟨vs, h1, h2⟩ := main _ hs
    have hl := oks_len h1
    have hne : ¬ vs.toArray.size = 1 := by
      intro h
      have : ss.length = 1 := by rw [← hl]; simpa using h
      obtain ⟨s, rfl⟩ := List.length_eq_one_iff.1 this
      exact hns s rfl
    refine ⟨.tuple vs.toArray, .tup ss, by rw [h2, dif_neg hne], hr, by simp only [S.ok]; exact ⟨vs, rfl, h1⟩⟩
  · exact hr.elim
def FOk (P : Program) (ff : Nat → Option FI) : Prop := ∀ f fi, ff f = some fi → ∃ fn c, P.funcs[f]? = some fn ∧ fn.body = some c ∧ comp c = fi.body ∧ fn.ntmps = fi.ntmps ∧ fn.results.toList = fi.res ∧ ∀ (as : Array Value) (w : World), (callFunc f as).run P w = .ok (.enter f as) w
theorem oks_un {m : Nat} : ∀ n, oks m ν (List.replicate n .un) (List.replicate n undef)
  | 0 => oks_nil
  | n + 1 => oks_cons (by simp only [S.ok]) (oks_un n)
theorem call_in (hT : TOk P tt) (hm : P.follows .mixedOrders = true) {ff : Nat → Option FI} (hF : FOk P ff) {callK : FuncId → List S → List Ob → (S → List Ob → Prop) → Prop} {loopK : Nat → Cd → St → (X → St → Prop) → Prop}
    (hcall : ∀ f args h K, callK f args h K → CallSem W P f args h K) (hloop : ∀ n0 d st K, loopK n0 d st K → LoopSem W P n0 d st K) {f : FuncId} {fi : FI} (hfi : ff f = some fi) {args : List S} {h : List Ob} {K : S → List Ob → Prop}
    (hk : exec (std W) tt callK loopK h.length fi.body ⟨args ++ List.replicate (fi.ntmps - args.length) .un, h⟩ fun x st => (match x with
      | .normal => retS (std W) tt fi.res st K
      | .ret => retS (std W) tt fi.res st K
      | _ => False)) : CallSem W P f args h K := by
  obtain ⟨fn, c, h1, h2, h3, h4, h5, h6⟩ := hF f fi hfi
  intro w w0 S0 ν vs H ho
  refine Or.inl ⟨h6 _ w, ?_⟩
  rw [← h3] at hk
  have hsem := exec_sound hT hm hcall hloop h.length c _ _ hk
  have hl := oks_len ho
  refine calls_of_wp h1 h2 (wp_mono (hsem (Nat.le_refl _) w w0 S0 ν _ H ?_ rfl) fun e a w' hf => ?_)
  · simp only [Array.toList_append, Array.toList_replicate, List.size_toArray, h4, hl]
    exact oks_append ho (oks_un _)
  · obtain ⟨x, st, ν', g1, g2, g3, g4, g5, g6, g7⟩ := hf
    have fin : retS (std W) tt fi.res st K → bodyPost P fn (fun e w' => ∃ v, e = .returned v ∧ Post W w0 S0 ν h.length K v w') .ret a w' := by
      intro hr
      rw [← h5] at hr
      obtain ⟨v, s, q1, q2, q3⟩ := retS_ok hT g5 g6 hr
      exact ⟨g7, v, q1, v, rfl, s, st.h, ν', q2, g3, g4, g5, q3⟩
    cases x with
    | normal => cases e <;> first | exact g1.elim | exact fin g2
    | ret => cases e <;> first | exact g1.elim | exact fin g2
    | exit i => exact g2.elim
    | goto l => exact g2.elim
theorem callN_sound (hT : TOk P tt) (hm : P.follows .mixedOrders = true) {ff : Nat → Option FI} (hF : FOk P ff) {stop : FuncId → List S → List Ob → (S → List Ob → Prop) → Prop} {loopK : Nat → Cd → St → (X → St → Prop) → Prop}
    (hstop : ∀ f args h K, stop f args h K → CallSem W P f args h K) (hloop : ∀ n0 d st K, loopK n0 d st K → LoopSem W P n0 d st K) :
    ∀ n f args h K, callN (std W) tt ff stop loopK n f args h K → CallSem W P f args h K := by
  intro n
  induction n with
  | zero => exact fun f args h K hk => hstop _ _ _ _ hk
  | succ n ih =>
    intro f args h K hk
    simp only [callN] at hk
    split at hk
    case h_2 => exact hstop _ _ _ _ hk
    rename_i fi hfi
    simp only [normL_eq, retK_eq] at hk
    exact call_in hT hm hF ih hloop hfi hk

/-! Loops. -/
/-- One round, and on. -/
theorem loop_round (hT : TOk P tt) (hm : P.follows .mixedOrders = true) {callK : FuncId → List S → List Ob → (S → List Ob → Prop) → Prop} {loopK : Nat → Cd → St → (X → St → Prop) → Prop}
    (hcall : ∀ f args h K, callK f args h K → CallSem W P f args h K) (hloop : ∀ n0 d st K, loopK n0 d st K → LoopSem W P n0 d st K) {n0 : Nat} {d : Cd} {st : St} {K : X → St → Prop}
    (h : exec (std W) tt callK loopK n0 d st fun x st' => (match x with
      | .normal => loopK n0 d st' K
      | x => K x st')) : LoopSem W P n0 d st K := by
  intro hn c hc w w0 S0 ν a H ht hd
  rw [← hc] at h
  have hsem := exec_sound hT hm hcall hloop n0 c st _ h hn w w0 S0 ν a H ht hd
  refine wp_mono hsem fun e a' w' hf => ?_
  obtain ⟨x, st', ν', g1, g2, g3, g4, g5, g6, g7⟩ := hf
  cases x with
  | normal =>
    cases e with
    | normal =>
      rw [hc] at g2
      exact loopWp_of (wp_mono (hloop _ _ _ _ g2 g3 c hc w' w0 S0 ν' a' g5 g6 g7) fun e a w hq => by
        cases e with
        | normal => exact hq.mono fun e a w hf => hf.trans (Nat.le_refl _) g4
        | _ => exact Fin.trans (Nat.le_refl _) g4 hq)
    | _ => exact g1.elim
  | exit i => cases e <;> first | exact g1.elim | exact ⟨.exit i, st', ν', g1, g2, g3, g4, g5, g6, g7⟩
  | goto l => cases e <;> first | exact g1.elim | exact ⟨.goto l, st', ν', g1, g2, g3, g4, g5, g6, g7⟩
  | ret => cases e <;> first | exact g1.elim | exact ⟨.ret, st', ν', g1, g2, g3, g4, g5, g6, g7⟩
theorem runN_sound (hT : TOk P tt) (hm : P.follows .mixedOrders = true) {ff : Nat → Option FI} (hF : FOk P ff) {stop : FuncId → List S → List Ob → (S → List Ob → Prop) → Prop} (hstop : ∀ f args h K, stop f args h K → CallSem W P f args h K) :
    ∀ n, (∀ f args h K, (runN (std W) tt ff stop n).1 f args h K → CallSem W P f args h K) ∧ (∀ n0 d st K, (runN (std W) tt ff stop n).2 n0 d st K → LoopSem W P n0 d st K) := by
  intro n
  induction n with
  | zero => exact ⟨fun f args h K hk => hk.elim, fun n0 d st K hk => hk.elim⟩
  | succ n ih =>
    refine ⟨fun f args h K hk => ?_, fun n0 d st K hk => ?_⟩
    · simp only [runN] at hk
      split at hk
      case h_2 => exact hstop _ _ _ _ hk
      rename_i fi hfi
      simp only [normL_eq, retK_eq] at hk
      exact call_in hT hm hF ih.1 ih.2 hfi hk
    · exact loop_round hT hm ih.1 ih.2 hk
end
end Go.SX
