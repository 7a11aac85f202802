/- SX: code, functions, loops. -/
import Derived.Test.YtbkegflipglioaaGreatSX12
namespace Go.SX
open Go.RowKit
section
variable {W : Addr → Nat → Nat → Option (List S)}
variable {P : Program} {tt : Nat → Option TI}
variable {callK : FuncId → List S → List Ob → (S → List Ob → Prop) → Prop} {loopK : Nat → Cd → St → (X → St → Prop) → Prop}
theorem Fin.trans {w0 : World} {S0 : List Nat} {ν ν' : Nat → Env} {n n' : Nat} {K : X → St → Prop} {e : Exit} {a : Act} {w : World} (hn : n ≤ n') (he : ∀ i, i < n → ν' i = ν i) (h : Fin W w0 S0 ν' n' K e a w) : Fin W w0 S0 ν n K e a w := by
  obtain ⟨x, st, ν'', h1, h2, h3, h4, h5⟩ := h
  exact ⟨x, st, ν'', h1, h2, Nat.le_trans hn h3, fun i hi => (h4 i (Nat.lt_of_lt_of_le hi hn)).trans (he i hi), h5⟩
theorem Fin.mono {w0 : World} {S0 : List Nat} {ν : Nat → Env} {n : Nat} {K K' : X → St → Prop} {e : Exit} {a : Act} {w : World} (hk : ∀ x st, K x st → K' x st) (h : Fin W w0 S0 ν n K e a w) : Fin W w0 S0 ν n K' e a w := by
  obtain ⟨x, st, ν'', h1, h2, h3⟩ := h
  exact ⟨x, st, ν'', h1, hk _ _ h2, h3⟩
theorem Fin.not_panic {w0 : World} {S0 : List Nat} {ν : Nat → Env} {n : Nat} {K : X → St → Prop} {c : List PanicEntry} {a : Act} {w : World} : ¬ Fin W w0 S0 ν n K (.panic c) a w := by
  rintro ⟨x, st, ν', h1, _⟩
  cases x <;> exact h1
theorem CodeSem.mono {n0 : Nat} {c : Code} {st : St} {K K' : X → St → Prop} (h : CodeSem W P n0 c st K) (hk : ∀ x st, K x st → K' x st) : CodeSem W P n0 c st K' :=
  fun hn w w0 S0 ν a H ht hd => wp_mono (h hn w w0 S0 ν a H ht hd) fun _ _ _ hf => hf.mono hk
theorem closed_none (ops : Array Oper) (n : Nat) : Closed ops (Array.replicate n false) := by
  intro j hj
  rcases Nat.lt_or_ge j n with h | h
  · simp [h] at hj
  · have h0 : (Array.replicate n false)[j]? = none := Array.getElem?_eq_none (by simpa using h)
    simp [h0] at hj
/-- The rounds of a loop behind the first one. -/
def LoopWp (P : Program) (c : Code) (Q : Exit → Act → World → Prop) (a : Act) (w : World) : Prop :=
  ∀ (b : Frame) (k : List Item) (cs : List Frame), ∃ e a' w', Q e a' w' ∧ Arrives P (lone (b.at a (.inLoop c :: k)) cs w) b k cs e a' w'
theorem loop_arrives {c : Code} {Q : Exit → Act → World → Prop} {a : Act} {w : World} (h : c.wp P (Exit.then (LoopWp P c Q) Q) a w) (b : Frame) (k : List Item) (cs : List Frame) :
    ∃ e a' w', Q e a' w' ∧ Arrives P (lone (b.at a (.code c :: .inLoop c :: k)) cs w) b k cs e a' w' := by
  obtain ⟨e, a₁, w₁, hq, harr⟩ := h b (.inLoop c :: k) cs
  cases e with
  | normal =>
    obtain ⟨e₂, a₂, w₂, hq₂, harr₂⟩ := hq b k cs
    exact ⟨e₂, a₂, w₂, hq₂, .of_steps harr harr₂⟩
  | exit id => exact ⟨_, a₁, w₁, hq, .pass (x := .inLoop c) rfl (fun _ _ => .inl (by simp)) harr⟩
  | goto l => exact ⟨_, a₁, w₁, hq, .pass (x := .inLoop c) rfl (fun _ _ => .inl (by simp)) harr⟩
  | ret => exact ⟨_, a₁, w₁, hq, .pass (x := .inLoop c) rfl (fun _ _ => .inl (by simp)) harr⟩
  | panic ch => exact ⟨_, a₁, w₁, hq, .pass (x := .inLoop c) rfl (fun _ _ => .inl (by simp)) harr⟩
  | outgrown => exact ⟨_, a₁, w₁, hq, .pass (x := .inLoop c) rfl (fun _ _ => .inl (by simp)) harr⟩
theorem loopWp_of {c : Code} {Q : Exit → Act → World → Prop} {a : Act} {w : World} (h : c.wp P (Exit.then (LoopWp P c Q) Q) a w) : LoopWp P c Q a w := fun b k cs => by
  obtain ⟨e, a', w', hq, harr⟩ := loop_arrives h b k cs
  exact ⟨e, a', w', hq, .of_steps (.one step_inLoop) harr⟩
theorem wp_loop_of {c : Code} {Q : Exit → Act → World → Prop} {a : Act} {w : World} (h : c.wp P (Exit.then (LoopWp P c Q) Q) a w) : (Code.loop c).wp P Q a w := fun b k cs => by
  obtain ⟨e, a', w', hq, harr⟩ := loop_arrives h b k cs
  exact ⟨e, a', w', hq, .of_steps (.one step_loop) harr⟩
theorem LoopWp.mono {c : Code} {Q Q' : Exit → Act → World → Prop} {a : Act} {w : World} (h : LoopWp P c Q a w) (hq : ∀ e a w, Q e a w → Q' e a w) : LoopWp P c Q' a w := fun b k cs =>
  let ⟨e, a', w', q, r⟩ := h b k cs; ⟨e, a', w', hq _ _ _ q, r⟩
/-- A loop from a state on. -/
def LoopSem (W : Addr → Nat → Nat → Option (List S)) (P : Program) (n0 : Nat) (d : Cd) (st : St) (K : X → St → Prop) : Prop :=
  n0 ≤ st.h.length → ∀ (c : Code), comp c = d → ∀ (w w0 : World) (S0 : List Nat) (ν : Nat → Env) (a : Act), HOk W w0 S0 ν st.h w → oks st.h.length ν st.t a.tmps.toList → a.defers = [] →
    c.wp P (Exit.then (LoopWp P c (Fin W w0 S0 ν n0 K)) (Fin W w0 S0 ν n0 K)) a w
theorem exec_sound (hT : TOk P tt) (hm : P.follows .mixedOrders = true) (hcall : ∀ f args h K, callK f args h K → CallSem W P f args h K) (hloop : ∀ n0 d st K, loopK n0 d st K → LoopSem W P n0 d st K) (n0 : Nat) :
    ∀ (c : Code) (st : St) (K : X → St → Prop), exec (std W) tt callK loopK n0 (comp c) st K → CodeSem W P n0 c st K := by
  intro c
  induction c with
  | skip => exact fun st K hk hn w w0 S0 ν a H ht hd => wp_skip ⟨.normal, st, ν, trivial, hk, hn, fun _ _ => rfl, H, ht, hd⟩
  | label l => exact fun st K hk hn w w0 S0 ν a H ht hd => wp_label ⟨.normal, st, ν, trivial, hk, hn, fun _ _ => rfl, H, ht, hd⟩
  | exit id => exact fun st K hk hn w w0 S0 ν a H ht hd => wp_exit ⟨.exit id, st, ν, rfl, hk, hn, fun _ _ => rfl, H, ht, hd⟩
  | goto l => exact fun st K hk hn w w0 S0 ν a H ht hd => wp_goto ⟨.goto l, st, ν, rfl, hk, hn, fun _ _ => rfl, H, ht, hd⟩
  | ret => exact fun st K hk hn w w0 S0 ν a H ht hd => wp_ret ⟨.ret, st, ν, trivial, hk, hn, fun _ _ => rfl, H, ht, hd⟩
  | rangeFunc f ps x y _ _ => exact fun st K hk => hk.elim
  | refuse s => exact fun st K hk => hk.elim
  | region id ops draw =>
    intro st K hk hn w w0 S0 ν a H ht hd
    cases draw with
    | false =>
      simp only [comp, exec_reg] at hk
      refine wp_region_list (execOps_sound hT hcall ops.toList H ht hd hk fun st' ν' a' w' k1 k2 k3 k4 k5 k6 => ⟨.normal, st', ν', trivial, k1, Nat.le_trans hn k2, fun i hi => k3 i (Nat.lt_of_lt_of_le hi hn), k4, k5, k6⟩)
    | true =>
      simp only [comp] at hk
      split at hk
      · rename_i ps hps
        simp only [exec_draw] at hk
        unfold plan at hps
        split at hps
        case h_2 => cases hps
        rename_i hsel
        split at hps
        case h_2 => cases hps
        rename_i ps' hgo
        split at hps
        case isFalse => cases hps
        rename_i hlen
        simp only [Option.some.injEq] at hps
        subst hps
        refine wp_region_any hm ?_
        have hms := masks_desc (ops := ops) ops.toList [] (by simp) (by simp)
        have key := execD_sound hT hcall (Q := Fin W w0 S0 ν n0 K) (fun c a w => Fin.not_panic) hsel hms (ops.size + 1) (Array.replicate ops.size false) [] ps' [] [] st.t st.h ν a w.drew _ hgo (closed_none _ _) (by simp) (by simp [LRel]) H.drew ht hd hk
          fun st' ν' a' w' k1 k2 k3 k4 k5 k6 => ⟨.normal, st', ν', trivial, k1, Nat.le_trans hn k2, fun i hi => k3 i (Nat.lt_of_lt_of_le hi hn), k4, k5, k6⟩
        rw [hlen] at key
        exact wpAnyS_any _ key
      · split at hk
        case h_2 => exact hk.elim
        rename_i p hp
        simp only [exec_drawF] at hk
        unfold planF at hp
        split at hp
        case h_2 => cases hp
        rename_i hsel
        split at hp
        case h_2 => cases hp
        rename_i p' hgo
        split at hp
        case isFalse => cases hp
        rename_i hlen
        simp only [Option.some.injEq] at hp
        subst hp
        refine wp_region_any hm ?_
        have hms := masks_desc (ops := ops) ops.toList [] (by simp) (by simp)
        have key := execT_sound hT hcall (Q := Fin W w0 S0 ν n0 K) (fun c a w => Fin.not_panic) hsel hms (ops.size + 1) (Array.replicate ops.size false) [] p' [] [] st.t st.h ν a w.drew _ hgo (closed_none _ _) (by simp) (by simp [LRel]) H.drew ht hd hk
          fun st' ν' a' w' k1 k2 k3 k4 k5 k6 => ⟨.normal, st', ν', trivial, k1, Nat.le_trans hn k2, fun i hi => k3 i (Nat.lt_of_lt_of_le hi hn), k4, k5, k6⟩
        rw [hlen] at key
        exact wpAnyS_any _ key
  | seq a b iha ihb =>
    intro st K hk hn w w0 S0 ν ac H ht hd
    simp only [comp, exec_seq] at hk
    refine wp_seq (wp_mono (iha st _ hk hn w w0 S0 ν ac H ht hd) fun e a' w' hf => ?_)
    obtain ⟨x, st', ν', h1, h2, h3, h4, h5, h6, h7⟩ := hf
    cases x with
    | normal =>
      cases e with
      | normal => exact wp_mono (ihb st' K h2 h3 w' w0 S0 ν' a' h5 h6 h7) fun e a w hf => hf.trans (Nat.le_refl _) h4
      | _ => exact h1.elim
    | exit i => cases e <;> first | exact h1.elim | exact ⟨.exit i, st', ν', h1, h2, h3, h4, h5, h6, h7⟩
    | goto l => cases e <;> first | exact h1.elim | exact ⟨.goto l, st', ν', h1, h2, h3, h4, h5, h6, h7⟩
    | ret => cases e <;> first | exact h1.elim | exact ⟨.ret, st', ν', h1, h2, h3, h4, h5, h6, h7⟩
  | cond c a b iha ihb =>
    intro st K hk hn w w0 S0 ν ac H ht hd
    simp only [comp, exec_cond] at hk
    have hv := ev_ok ht c
    split at hk
    · rename_i he; rw [he] at hv; simp only [S.ok] at hv
      exact wp_cond_true hv (iha st K hk hn w w0 S0 ν ac H ht hd)
    · rename_i he; rw [he] at hv; simp only [S.ok] at hv
      exact wp_cond_false hv (ihb st K hk hn w w0 S0 ν ac H ht hd)
    · rename_i x he; rw [he] at hv; simp only [S.ok] at hv
      split at hk
      · rename_i hx; subst hx
        exact wp_cond_true hv (iha st K hk hn w w0 S0 ν ac H ht hd)
      · rename_i hx
        have hx : x = false := by simpa using hx
        subst hx
        exact wp_cond_false hv (ihb st K hk hn w w0 S0 ν ac H ht hd)
    · exact hk.elim
  | block id a iha =>
    intro st K hk hn w w0 S0 ν ac H ht hd
    simp only [comp, exec_block] at hk
    refine wp_block (wp_mono (iha st _ hk hn w w0 S0 ν ac H ht hd) fun e a' w' hf => ?_)
    obtain ⟨x, st', ν', h1, h2, h3, h4, h5, h6, h7⟩ := hf
    cases x with
    | normal => cases e <;> first | exact h1.elim | exact ⟨.normal, st', ν', trivial, h2, h3, h4, h5, h6, h7⟩
    | exit i =>
      cases e with
      | exit j =>
        have hij : i = j := h1
        subst hij
        simp only [Exit.inBlock]
        simp only at h2
        split
        · rename_i hi; rw [if_pos hi] at h2; exact ⟨.normal, st', ν', trivial, h2, h3, h4, h5, h6, h7⟩
        · rename_i hi; rw [if_neg hi] at h2; exact ⟨.exit i, st', ν', rfl, h2, h3, h4, h5, h6, h7⟩
      | _ => exact h1.elim
    | goto l => cases e <;> first | exact h1.elim | exact ⟨.goto l, st', ν', h1, h2, h3, h4, h5, h6, h7⟩
    | ret => cases e <;> first | exact h1.elim | exact ⟨.ret, st', ν', h1, h2, h3, h4, h5, h6, h7⟩
  | loop a iha => exact fun st K hk hn w w0 S0 ν ac H ht hd => wp_loop_of (hloop _ _ _ _ hk hn a rfl w w0 S0 ν ac H ht hd)
  | scope a iha =>
    intro st K hk hn w w0 S0 ν ac H ht hd
    simp only [comp, exec_scope] at hk
    refine wp_scope_straight (wp_mono (iha st _ hk hn w w0 S0 ν ac H ht hd) fun e a' w' hf => ?_)
    obtain ⟨x, st', ν', h1, h2, h3, h4, h5, h6, h7⟩ := hf
    cases x with
    | normal => cases e <;> first | exact h1.elim | exact ⟨.normal, st', ν', trivial, h2, h3, h4, h5, h6, h7⟩
    | exit i => cases e <;> first | exact h1.elim | exact ⟨.exit i, st', ν', h1, h2, h3, h4, h5, h6, h7⟩
    | goto l => exact h2.elim
    | ret => cases e <;> first | exact h1.elim | exact ⟨.ret, st', ν', h1, h2, h3, h4, h5, h6, h7⟩
end
end Go.SX
