/- SX: SX10 to SX16. -/
import Derived.Test.YtbkegflipglioaaGreatSXM
import Derived.Scope
namespace Go.SX
open Go.RowKit
def Post (W : Addr → Nat → Nat → Option (List S)) (w0 : World) (S0 : List Nat) (ν : Nat → Env) (n : Nat) (K : S → List Ob → Prop) (v : Value) (w' : World) : Prop :=
  ∃ s h' ν', K s h' ∧ n ≤ h'.length ∧ (∀ i, i < n → ν' i = ν i) ∧ HOk W w0 S0 ν' h' w' ∧ s.ok h'.length ν' v
def CallSem (W : Addr → Nat → Nat → Option (List S)) (P : Program) (f : FuncId) (args : List S) (h : List Ob) (K : S → List Ob → Prop) : Prop :=
  ∀ (w w0 : World) (S0 : List Nat) (ν : Nat → Env) (vs : List Value), HOk W w0 S0 ν h w → oks h.length ν args vs →
    ((callFunc f vs.toArray).run P w = .ok (.enter f vs.toArray) w ∧ Calls P f vs.toArray w fun e w' => ∃ v, e = .returned v ∧ Post W w0 S0 ν h.length K v w') ∨
    (∃ v w', (callFunc f vs.toArray).run P w = .ok (.value v) w' ∧ Post W w0 S0 ν h.length K v w')
def xok : X → Exit → Prop
  | .normal, .normal => True
  | .exit i, .exit j => i = j
  | .goto i, .goto j => i = j
  | .ret, .ret => True
  | _, _ => False
def Fin (W : Addr → Nat → Nat → Option (List S)) (w0 : World) (S0 : List Nat) (ν : Nat → Env) (n : Nat) (K : X → St → Prop) (e : Exit) (a : Act) (w : World) : Prop :=
  ∃ x st ν', xok x e ∧ K x st ∧ n ≤ st.h.length ∧ (∀ i, i < n → ν' i = ν i) ∧ HOk W w0 S0 ν' st.h w ∧ oks st.h.length ν' st.t a.tmps.toList ∧ a.defers = []
def CodeSem (W : Addr → Nat → Nat → Option (List S)) (P : Program) (n0 : Nat) (c : Code) (st : St) (K : X → St → Prop) : Prop :=
  n0 ≤ st.h.length → ∀ (w w0 : World) (S0 : List Nat) (ν : Nat → Env) (a : Act), HOk W w0 S0 ν st.h w → oks st.h.length ν st.t a.tmps.toList → a.defers = [] → c.wp P (Fin W w0 S0 ν n0 K) a w

section
variable {W : Addr → Nat → Nat → Option (List S)}
variable {P : Program} {tt : Nat → Option TI} {w0 w : World} {S0 : List Nat} {ν : Nat → Env} {h : List Ob}
theorem opS_sound (hT : TOk P tt) {o : Oper} {t : List S} {a : Act} {K : S → List Ob → Prop} (H : HOk W w0 S0 ν h w) (ht : oks h.length ν t a.tmps.toList) (hk : opS (std W) tt o.op (evS t) h K) :
    ∃ v w', Post W w0 S0 ν h.length K v w' ∧ ((execOp a.eval o).run P w = .ok (.value v) w' ∨ ((execOp a.eval o).run P w = .ok .skip w' ∧ v = undef)) := by
  have hev := fun x => ev_ok ht x
  cases hp : isPure o.op with
  | true =>
    obtain ⟨s, v, h1, h2, h3⟩ := pure_sound hT hp hev hk
    exact ⟨v, w, ⟨s, h, ν, h1, Nat.le_refl _, fun _ _ => rfl, H, h2⟩, Or.inl (h3 w)⟩
  | false =>
    obtain ⟨dst, op, ty, pos, after, guard⟩ := o
    cases op <;> simp only [isPure, Bool.true_eq_false] at hp <;> simp only [opS] at hk
    case alloc e =>
      split at hk
      case h_2 => exact hk.elim
      rename_i ti hti
      obtain ⟨vs, h1, h2, h3⟩ := run_alloc (hT e ti hti)
      refine ⟨_, _, ⟨_, _, _, hk, by simp, updE_lt, H.alloc e (h1 _ _), ?_⟩, Or.inl (by simp only [execOp]; simp [h3]; rfl)⟩
      simp [S.ok, updE_eq, NN.val]
    case box e x =>
      split at hk
      case h_2 => exact hk.elim
      rename_i hon
      obtain ⟨h1, _⟩ := cs_ok hon (hev x)
      have h2 := H.alloc e h1
      rw [Array.toArray_toList] at h2
      refine ⟨_, _, ⟨_, _, _, hk, by simp, updE_lt, h2, ?_⟩, Or.inl (by simp only [execOp]; simp [run_box]; rfl)⟩
      simp [S.ok, updE_eq, NN.val]
    case buildSlice t len ps =>
      split at hk
      case h_2 => exact hk.elim
      rename_i e sz cs hb
      obtain ⟨vs, h1, h2, hl, h3⟩ := buildSl_sound hT hev hb
      split at hk
      · refine ⟨_, _, ⟨_, _, _, hk, Nat.le_refl _, fun _ _ => rfl, H.step (S1 := []) ((Upd.refl [] w).alloc (.cells vs.toArray e (0, 0))) (by simp), ?_⟩, Or.inl (by simp only [execOp]; simp [h3]; rfl)⟩
        simp [S.ok]
      · rename_i len
        refine ⟨_, _, ⟨_, _, _, hk, by simp, updE_lt, H.allocRow e sz (len + 1) h1 h2 hl, ?_⟩, Or.inl (by simp only [execOp]; simp [h3]; rfl)⟩
        simp [S.ok, updE_eq, NN.val, Cap.val, hl]
    case makeSlice t l c =>
      split at hk
      case h_2 => exact hk.elim
      rename_i kl n kc m hl hc
      split at hk
      case h_2 => exact hk.elim
      rename_i h1 h2
      have h1 := Nat.eq_of_beq_eq_true h1
      subst h1
      split at hk
      case h_2 => exact hk.elim
      rename_i e sz cs hb
      obtain ⟨vs, q1, q2, q3, q4⟩ := makeSl_sound (m := h.length) (ν := ν) hT hb
      have el := hev l
      have ec := hev c
      rw [hl] at el
      rw [hc] at ec
      simp only [S.ok] at el ec
      refine ⟨_, _, ⟨_, _, _, hk, by simp, updE_lt, H.allocRow e sz n q1 q2 q3, ?_⟩, Or.inl (by simp only [execOp]; rw [el, ec]; simp [q4]; rfl)⟩
      simp [S.ok, updE_eq, NN.val, Cap.val, q3]
    case load t x =>
      obtain ⟨s, hs, hK⟩ := someK_iff hk
      obtain ⟨u, h1, h2⟩ := loadS_sound hT H hs (hev x)
      exact ⟨u, w, ⟨s, h, ν, hK, Nat.le_refl _, fun _ _ => rfl, H, h1⟩, Or.inl (by simp [execOp, h2])⟩
    case store t x y =>
      split at hk
      case h_2 => exact hk.elim
      rename_i h' hs
      obtain ⟨w', h1, h2, h3⟩ := storeS_sound hT H hs (hev x) (hev y)
      exact ⟨undef, w', ⟨_, h', ν, hk, by omega, fun _ _ => rfl, h2, by simp only [S.ok]⟩, Or.inr ⟨by simp [execOp, h1], rfl⟩⟩
    case call c =>
      split at hk
      all_goals first
        | exact hk.elim
        | (simp_all; done)

variable {callK : FuncId → List S → List Ob → (S → List Ob → Prop) → Prop}
theorem evs_ok {m : Nat} {t : List S} {a : Act} (ht : oks m ν t a.tmps.toList) : ∀ l : List Operand, oks m ν (l.map (evS t)) (l.map a.eval)
  | [] => oks_nil
  | x :: l => oks_cons (ev_ok ht x) (evs_ok ht l)
theorem run_method {t e : TypeId} {i : TypeInfo} {me : Method} {nm : String} {f : FuncId} (hund : P.underlying t = some (.pointer e)) (hinfo : P.info? t = some i) (hme : i.methods.find? (·.name == nm) = some me) (hpath : me.path = #[]) (hfun : me.func = some (f, true)) (n : Nat) (u : Value) (w : World) :
    (method (n + 1) t u nm).run P w = .ok (f, u) w := by
  simp [method, typeInfo, hinfo, hme, hpath, hfun, follow, receiverAt, run_underlying hund, Place.get]
theorem run_invoke {t e : TypeId} {i : TypeInfo} {me : Method} {nm : String} {f : FuncId} (hund : P.underlying t = some (.pointer e)) (hinfo : P.info? t = some i) (hme : i.methods.find? (·.name == nm) = some me) (hpath : me.path = #[]) (hfun : me.func = some (f, true))
    {ρ : Operand → Value} {r : Operand} {u : Value} (hr : ρ r = .iface t u) {dst : Option Tmp} {args : Array Operand} {ats : Array TypeId} {ty : TypeId} {pos : String} {after : Array Edge} {guard : Option (Nat × Bool)} :
    (execOp ρ { dst := dst, op := .call { callee := .invoke r nm, args := args, argTypes := ats }, type := ty, pos := pos, after := after, guard := guard }).run P w = (callFunc f (#[u] ++ args.map ρ)).run P w := by
  have hex : (#[ρ r] ++ args.map ρ).extract 1 (#[ρ r] ++ args.map ρ).size = args.map ρ := by
    apply Array.toList_inj.1; simp; rw [List.take_of_length_le (by simp)]
  have h0 : (#[ρ r] ++ args.map ρ)[0]? = some (ρ r) := by rw [Array.getElem?_append_left (by simp)]; rfl
  have hd : P.types.size + Made.depth = (P.types.size + 99) + 1 := rfl
  simp only [execOp, resolve, Sem.run_bind, Sem.run_pure, Result.andThen_ok, invoke, h0, hex]
  rw [hr]
  simp only [callMethod, Sem.run_bind, run_program, Result.andThen_ok]
  rw [hd, run_method hund hinfo hme hpath hfun]
  rfl
theorem operS_sound (hT : TOk P tt) (hcall : ∀ f args h K, callK f args h K → CallSem W P f args h K) {o : Oper} {t : List S} {a : Act} {K : S → List Ob → Prop} {Q : Exit → Act → World → Prop} {next : Act → World → Prop}
    (H : HOk W w0 S0 ν h w) (ht : oks h.length ν t a.tmps.toList) (hk : operS (std W) tt callK o.op t h K) (hn : ∀ v w', Post W w0 S0 ν h.length K v w' → next (a.put o.dst v) w') : o.wp P a w next Q := by
  have plain : opS (std W) tt o.op (evS t) h K → o.wp P a w next Q := by
    intro hk
    obtain ⟨v, w', h1, h2⟩ := opS_sound hT H ht hk
    unfold Oper.wp
    rcases h2 with h2 | ⟨h2, rfl⟩
    · rw [h2]; exact hn _ _ h1
    · rw [h2]; exact hn _ _ h1
  have enter : ∀ {f : FuncId} {args : List S} {vs : List Value}, callK f args h K → oks h.length ν args vs → (execOp a.eval o).run P w = (callFunc f vs.toArray).run P w → o.wp P a w next Q := by
    intro f args vs hk hvs hrun
    unfold Oper.wp
    rw [hrun]
    rcases hcall _ _ _ _ hk w w0 S0 ν vs H hvs with ⟨h1, h2⟩ | ⟨v, w', h1, h2⟩
    · rw [h1]
      refine h2.mono ?_
      rintro e w' ⟨v, rfl, hp⟩
      exact hn _ _ hp
    · rw [h1]
      exact hn _ _ h2
  obtain ⟨dst, op, ty, pos, after, guard⟩ := o
  cases op with
  | call c =>
    obtain ⟨callee, args, ats⟩ := c
    cases callee with
    | value f =>
      simp only [operS] at hk
      split at hk
      · rename_i g cap hf
        have hfv := ev_ok ht f
        rw [hf] at hfv
        simp only [S.ok] at hfv
        obtain ⟨cs, hfv, hcs⟩ := hfv
        refine enter hk (oks_append (evs_ok ht args.toList) hcs) ?_
        have hargs : (args.map a.eval) ++ cs.toArray = (args.toList.map a.eval ++ cs).toArray := by
          apply Array.toList_inj.1; simp
        simp only [execOp, resolve, hfv, Deferred.ofValue, Sem.run_bind, Sem.run_pure, Result.andThen_ok, invoke]
        rw [Array.empty_append, hargs]
      · rename_i g fs hf
        have hfv := ev_ok ht f
        rw [hf] at hfv
        simp only [S.ok] at hfv
        obtain ⟨cs, hfv, hcs⟩ := hfv
        refine enter hk (oks_append hcs (evs_ok ht args.toList)) ?_
        have hargs : cs.toArray ++ (args.map a.eval) = (cs ++ args.toList.map a.eval).toArray := by
          apply Array.toList_inj.1; simp
        simp only [execOp, resolve, hfv, Deferred.ofValue, Sem.run_bind, Sem.run_pure, Result.andThen_ok, invoke]
        rw [Array.append_empty, hargs]
      · exact hk.elim
    | invoke r name =>
      simp only [operS] at hk
      split at hk
      case h_2 => exact hk.elim
      rename_i tr v hr
      split at hk
      case h_2 => exact hk.elim
      rename_i ti hti
      split at hk
      case h_2 => exact hk.elim
      rename_i nm f hm
      have hrv := ev_ok ht r
      rw [hr] at hrv
      simp only [S.ok] at hrv
      obtain ⟨u, hrv, hu⟩ := hrv
      refine enter hk (oks_cons hu (evs_ok ht args.toList)) ?_
      have hname : nm = name := by have := List.find?_some hm; simpa using this
      subst hname
      obtain ⟨e, i, hund, hinfo, me, hme, hpath, hfun⟩ := (hT tr ti hti).mets _ _ hm
      have hargs : #[u] ++ (args.map a.eval) = (u :: args.toList.map a.eval).toArray := by
        apply Array.toList_inj.1; simp
      rw [run_invoke hund hinfo hme hpath hfun hrv, hargs]
    | builtin b =>
      by_cases hb : b = .append
      · subst hb
        simp only [operS] at hk
        split at hk
        case h_2 => exact hk.elim
        rename_i x y t1 t2 hxy hat
        obtain ⟨rfl, hk2⟩ := ifP hk (fun x => x)
        have hx := evs_ok ht args.toList
        rw [hxy] at hx
        generalize hvs : args.toList.map a.eval = vs at hx
        simp only [S.oks] at hx
        obtain ⟨xv, _, rfl, h1, yv, _, rfl, h2, rfl⟩ := hx
        obtain ⟨s, h', ν', v, w', g1, g2, g3, g4, g5, g6⟩ := appS_sound (ty := ty) hT H hk2 h1 h2
        have hats : ats = #[t1, t1] := by apply Array.toList_inj.1; simpa using hat
        have hargs : args.map a.eval = #[xv, yv] := by apply Array.toList_inj.1; simpa using hvs
        subst hats
        unfold Oper.wp
        have hrun : (execOp a.eval { dst := dst, op := .call { callee := .builtin .append, args := args, argTypes := #[t1, t1] }, type := ty, pos := pos, after := after, guard := guard }).run P w = .ok (.value v) w' := by
          simp [execOp, resolve, invoke, builtin, hargs, g2]
        rw [hrun]
        exact hn _ _ ⟨s, h', ν', g1, g4, g5, g6, g3⟩
      · by_cases hl : b = .len
        · subst hl
          simp only [operS] at hk
          split at hk
          case h_2 => exact plain hk
          rename_i id ty' hxy hat
          have hx := evs_ok ht args.toList
          rw [hxy] at hx
          generalize hvs : args.toList.map a.eval = vs at hx
          simp only [S.oks] at hx
          obtain ⟨xv, _, rfl, h1, rfl⟩ := hx
          cases hm : mapLenS tt ty' (.mp id) h with
          | none => rw [hm] at hk; exact hk.elim
          | some s =>
          rw [hm] at hk
          obtain ⟨v, g1, g2⟩ := mapLenS_sound (ty := ty) hT H hm h1
          have hats : ats = #[ty'] := by apply Array.toList_inj.1; simpa using hat
          have hargs : args.map a.eval = #[xv] := by apply Array.toList_inj.1; simpa using hvs
          subst hats
          unfold Oper.wp
          have hrun : (execOp a.eval { dst := dst, op := .call { callee := .builtin .len, args := args, argTypes := #[ty'] }, type := ty, pos := pos, after := after, guard := guard }).run P w = .ok (.value v) w := by
            simp [execOp, resolve, invoke, builtin, hargs, g2]
          rw [hrun]
          exact hn _ _ ⟨s, h, ν, hk, Nat.le_refl _, fun _ _ => rfl, H, g1⟩
        · refine plain ?_
          cases b <;> first | exact hk | exact absurd rfl hb | exact absurd rfl hl
  | makeMap mt r =>
    cases r with
    | some r => exact plain hk
    | none =>
      simp only [operS] at hk
      unfold Oper.wp
      have hrun : (execOp a.eval { dst := dst, op := .makeMap mt none, type := ty, pos := pos, after := after, guard := guard }).run P w = .ok (.value (.map (some w.heap.size))) (w.alloc (.map #[] 0)) := by
        simp [execOp, Instr.makeMap]
      rw [hrun]
      exact hn _ _ ⟨_, _, _, hk, by simp, updE_lt, makeMap_sound H, by simp [S.ok, updE_eq]⟩
  | mapUpdate mt m k v =>
    simp only [operS] at hk
    split at hk
    case h_2 => exact hk.elim
    rename_i h' hm
    obtain ⟨w', g1, g2, g3⟩ := mapUpdS_sound hT H hm (ev_ok ht m) (ev_ok ht k) (ev_ok ht v)
    unfold Oper.wp
    have hrun : (execOp a.eval { dst := dst, op := .mapUpdate mt m k v, type := ty, pos := pos, after := after, guard := guard }).run P w = .ok .skip w' := by
      simp [execOp, g1]
    rw [hrun]
    exact hn _ _ ⟨_, h', ν, hk, by omega, fun _ _ => rfl, g2, by simp only [S.ok]⟩
  | insert mt m k v =>
    simp only [operS] at hk
    split at hk
    case h_2 => exact hk.elim
    rename_i h' hm
    obtain ⟨w', g1, g2, g3⟩ := mapUpdS_sound hT H hm (ev_ok ht m) (ev_ok ht k) (ev_ok ht v)
    unfold Oper.wp
    have hrun : (execOp a.eval { dst := dst, op := .insert mt m k v, type := ty, pos := pos, after := after, guard := guard }).run P w = .ok .skip w' := by
      simp [execOp, g1]
    rw [hrun]
    exact hn _ _ ⟨_, h', ν, hk, by omega, fun _ _ => rfl, g2, by simp only [S.ok]⟩
  | lookup mt m k b =>
    simp only [operS] at hk
    obtain ⟨s, bb, hk, v, g1, g2, g3⟩ := lookK_sound hT H hk (ev_ok ht m) (ev_ok ht k)
    cases b with
    | true =>
      simp only at hk
      unfold Oper.wp
      have hrun : (execOp a.eval { dst := dst, op := .lookup mt m k true, type := ty, pos := pos, after := after, guard := guard }).run P w = .ok (.value (.tuple #[v, .bool bb])) w := by
        simp [execOp, g3]
      rw [hrun]
      exact hn _ _ ⟨_, h, ν, hk, Nat.le_refl _, fun _ _ => rfl, H, by simp only [S.ok]; exact ⟨[v, .bool bb], rfl, oks_cons g1 (oks_cons (by simp only [S.ok]) oks_nil)⟩⟩
    | false =>
      simp only at hk
      unfold Oper.wp
      have hrun : (execOp a.eval { dst := dst, op := .lookup mt m k false, type := ty, pos := pos, after := after, guard := guard }).run P w = .ok (.value v) w := by
        simp [execOp, g2]
      rw [hrun]
      exact hn _ _ ⟨s, h, ν, hk, Nat.le_refl _, fun _ _ => rfl, H, g1⟩
  | _ => exact plain hk

theorem put_tmps (a : Act) (d : Option Tmp) (v : Value) : (a.put d v).tmps.toList = match d with | some d => a.tmps.toList.set d v | none => a.tmps.toList := by
  cases d <;> simp [Act.put]
theorem put_defers (a : Act) (d : Option Tmp) (v : Value) : (a.put d v).defers = a.defers := by cases d <;> rfl
theorem putD_ok {m : Nat} {t : List S} {a : Act} {s : S} {v : Value} (d : Option Tmp) (ht : oks m ν t a.tmps.toList) (hs : s.ok m ν v) : oks m ν (putD t d s) (a.put d v).tmps.toList := by
  rw [put_tmps]
  cases d with
  | none => exact ht
  | some d => exact setT_ok d ht hs
theorem setT_same {m : Nat} {t : List S} {vs : List Value} {s : S} (d : Nat) (ht : oks m ν t vs) (hs : s.ok m ν (vs.getD d undef)) : oks m ν (setT t d s) vs := by
  have h1 := setT_ok d ht hs
  have h2 : vs.set d (vs.getD d undef) = vs := by
    rcases Nat.lt_or_ge d vs.length with h | h
    · simp [List.getD, h]
    · rw [List.set_eq_of_length_le h]
  rwa [h2] at h1
theorem yielded_of {ops : Array Oper} {j : Nat} {d : Tmp} {tmps : Array Value} (hd : dstOf ops.toList j = some d) : yielded ops tmps j = match tmps[d]? with | some (.bool b) => some b | _ => none := by
  unfold dstOf at hd
  split at hd
  case h_2 => cases hd
  rename_i o ho
  have ho' : ops[j]? = some o := by simpa using ho
  simp only [yielded, ho', hd, Option.bind_some]
  rfl
theorem yielded_bool {ops : Array Oper} {j : Nat} {d : Tmp} {a : Act} {x : Bool} (hd : dstOf ops.toList j = some d) (hv : a.tmps.toList.getD d undef = .bool x) : yielded ops a.tmps j = some x := by
  rw [yielded_of hd]
  rcases Nat.lt_or_ge d a.tmps.toList.length with h | h
  · have h' : d < a.tmps.size := by simpa using h
    have : a.tmps[d]? = some (.bool x) := by
      rw [Array.getElem?_eq_getElem h']
      rw [List.getD_eq_getElem?_getD, List.getElem?_eq_getElem h, Option.getD_some] at hv
      rw [← hv]; simp
    rw [this]
  · rw [List.getD_eq_getElem?_getD, List.getElem?_eq_none h] at hv
    simp [undef] at hv
theorem yielded_un {ops : Array Oper} {j : Nat} {d : Tmp} {a : Act} (hd : dstOf ops.toList j = some d) (hv : a.tmps.toList.getD d undef = undef) : yielded ops a.tmps j = none := by
  rw [yielded_of hd]
  rcases Nat.lt_or_ge d a.tmps.toList.length with h | h
  · have h' : d < a.tmps.size := by simpa using h
    have : a.tmps[d]? = some undef := by
      rw [Array.getElem?_eq_getElem h']
      rw [List.getD_eq_getElem?_getD, List.getElem?_eq_getElem h, Option.getD_some] at hv
      rw [← hv]; simp
    rw [this]; rfl
  · have h' : a.tmps.size ≤ d := by simpa using h
    rw [Array.getElem?_eq_none h']
structure GPost (W : Addr → Nat → Nat → Option (List S)) (w0 : World) (S0 : List Nat) (ν : Nat → Env) (n : Nat) (K : List S → List Ob → S → Prop) (a : Act) (w : World) (t' : List S) (h' : List Ob) (ν' : Nat → Env) (s : S) : Prop where
  k : K t' h' s
  le : n ≤ h'.length
  ext : ∀ i, i < n → ν' i = ν i
  hok : HOk W w0 S0 ν' h' w
  tok : oks h'.length ν' t' a.tmps.toList
  def_ : a.defers = []
theorem guardD_cases {ops : Array Oper} {o : Oper} {t : List S} {a : Act} {m : Nat} {run skip : List S → Prop} (ht : oks m ν t a.tmps.toList) (hk : guardD (guOf ops.toList o) t run skip) :
    (Region.wanted o (yielded ops a.tmps) = true ∧ ∃ t', oks m ν t' a.tmps.toList ∧ run t') ∨ (Region.wanted o (yielded ops a.tmps) = false ∧ ∃ t', oks m ν t' a.tmps.toList ∧ skip t') := by
  simp only [guardD, guOf] at hk
  cases hg : o.guard with
  | none =>
    rw [hg] at hk
    exact Or.inl ⟨by simp [Region.wanted, hg], t, ht, hk⟩
  | some jw =>
    obtain ⟨j, want⟩ := jw
    rw [hg] at hk
    simp only at hk
    have hw : ∀ y, Region.wanted o y = (y j == some want) := fun y => by simp [Region.wanted, hg]
    cases hdst : dstOf ops.toList j with
    | none => rw [hdst] at hk; exact hk.elim
    | some d =>
      rw [hdst] at hk
      simp only at hk
      have hv := getT_ok d ht
      split at hk
      · rename_i x he
        rw [he] at hv
        simp only [S.ok] at hv
        have hy := yielded_bool (a := a) hdst hv
        cases x <;> cases want <;> simp only at hk
        · exact Or.inl ⟨by rw [hw, hy]; rfl, t, ht, hk⟩
        · exact Or.inr ⟨by rw [hw, hy]; rfl, t, ht, hk⟩
        · exact Or.inr ⟨by rw [hw, hy]; rfl, t, ht, hk⟩
        · exact Or.inl ⟨by rw [hw, hy]; rfl, t, ht, hk⟩
      · rename_i x he
        rw [he] at hv
        simp only [S.ok] at hv
        have hy := yielded_bool (a := a) hdst hv
        split at hk
        · rename_i hx
          subst hx
          have ht' := setT_same (s := .bl true) d ht (by simp only [S.ok]; exact hv)
          cases want <;> simp only at hk
          · exact Or.inr ⟨by rw [hw, hy]; rfl, _, ht', hk⟩
          · exact Or.inl ⟨by rw [hw, hy]; rfl, _, ht', hk⟩
        · rename_i hx
          have hx : x = false := by simpa using hx
          subst hx
          have ht' := setT_same (s := .bl false) d ht (by simp only [S.ok]; exact hv)
          cases want <;> simp only at hk
          · exact Or.inl ⟨by rw [hw, hy]; rfl, _, ht', hk⟩
          · exact Or.inr ⟨by rw [hw, hy]; rfl, _, ht', hk⟩
      · rename_i he
        rw [he] at hv
        simp only [S.ok] at hv
        have hy := yielded_un (a := a) hdst hv
        exact Or.inr ⟨by rw [hw, hy]; rfl, t, ht, hk⟩
      · exact hk.elim
theorem orcS_ok {s : S} {v : Value} {K : S → List Ob → Prop} (H : HOk W w0 S0 ν h w) (hs : s.ok h.length ν v) (hk : orcS s h K) : ∃ s2 h2, K s2 h2 ∧ h2.length = h.length ∧ HOk W w0 S0 ν h2 w ∧ s2.ok h.length ν v := by
  have at_ : ∀ {i : Nat} {l : List OI}, getO h i = .orc l → h[i]? = some (.orc l) := by
    intro i l ho
    rcases getO_spec h i with hz | hz
    · rw [hz, ho]
    · rw [hz] at ho; cases ho
  unfold orcS at hk
  split at hk
  · rename_i c
    split at hk
    · rename_i l ho
      split at hk
      · rename_i x r
        obtain ⟨rfl, hk⟩ := hk
        rw [setOK_eq, setO_eq] at hk
        exact ⟨_, _, hk, by simp, H.orc (at_ ho) r, by simp only [S.ok] at hs ⊢; exact hs⟩
      · exact ⟨_, h, hk, rfl, H, hs⟩
    · exact ⟨_, h, hk, rfl, H, hs⟩
  · rename_i k c
    split at hk
    · rename_i l ho
      split at hk
      · rename_i x r
        obtain ⟨rfl, hk⟩ := hk
        rw [setOK_eq, setO_eq] at hk
        exact ⟨_, _, hk, by simp, H.orc (at_ ho) r, by simp only [S.ok] at hs ⊢; exact hs⟩
      · rename_i x r
        obtain ⟨rfl, hk⟩ := hk
        rw [setOK_eq, setO_eq] at hk
        exact ⟨_, _, hk, by simp, H.orc (at_ ho) r, by simp only [S.ok] at hs ⊢; exact hs⟩
      · rename_i r
        rw [setOK_eq, setO_eq] at hk
        exact ⟨_, _, hk, by simp, H.orc (at_ ho) r, hs⟩
      · exact ⟨_, h, hk, rfl, H, hs⟩
    · exact ⟨_, h, hk, rfl, H, hs⟩
  · exact ⟨_, h, hk, rfl, H, hs⟩
theorem runG_sound (hT : TOk P tt) (hcall : ∀ f args h K, callK f args h K → CallSem W P f args h K) {ops : Array Oper} {o : Oper} {t : List S} {a : Act} {K : List S → List Ob → S → Prop}
    (H : HOk W w0 S0 ν h w) (ht : oks h.length ν t a.tmps.toList) (hd : a.defers = []) (hk : runG (std W) tt callK (coOf ops.toList o) t h K) :
    (Region.wanted o (yielded ops a.tmps) = true ∧ ∀ (next : Act → World → Prop) (Q : Exit → Act → World → Prop), (∀ t' h' ν' s v a' w', a' = a.put o.dst v → GPost W w0 S0 ν h.length K a' w' t' h' ν' s → next a' w') → o.wp P a w next Q) ∨
    (Region.wanted o (yielded ops a.tmps) = false ∧ ∃ t', GPost W w0 S0 ν h.length K (a.put o.dst undef) w t' h ν .un) := by
  rw [runG_eq] at hk
  rcases guardD_cases ht hk with ⟨h1, t', ht', hk⟩ | ⟨h1, t', ht', hk⟩
  · refine Or.inl ⟨h1, fun next Q hn => operS_sound hT hcall H ht' hk fun v w' hp => ?_⟩
    obtain ⟨s, h', ν', h1, h2, h3, h4, h5⟩ := hp
    obtain ⟨s2, h2', k1, k2, k3, k4⟩ := orcS_ok h4 h5 h1
    exact hn _ h2' ν' s2 v _ w' rfl ⟨k1, by omega, h3, k3, by rw [k2]; exact putD_ok o.dst (S.oks_mono h3 h2 _ _ ht') k4, by rw [put_defers]; exact hd⟩
  · exact Or.inr ⟨h1, _, hk, Nat.le_refl _, fun _ _ => rfl, H, putD_ok o.dst ht' (by simp only [S.ok]), by rw [put_defers]; exact hd⟩
theorem execOps_sound (hT : TOk P tt) (hcall : ∀ f args h K, callK f args h K → CallSem W P f args h K) {ops : Array Oper} {Q : Exit → Act → World → Prop} :
    ∀ (l : List Oper) {t : List S} {h : List Ob} {ν : Nat → Env} {a : Act} {w : World} {K : St → Prop}, HOk W w0 S0 ν h w → oks h.length ν t a.tmps.toList → a.defers = [] → execOps (std W) tt callK (l.map (coOf ops.toList)) t h K →
      (∀ (st : St) (ν' : Nat → Env) (a' : Act) (w' : World), K st → h.length ≤ st.h.length → (∀ i, i < h.length → ν' i = ν i) → HOk W w0 S0 ν' st.h w' → oks st.h.length ν' st.t a'.tmps.toList → a'.defers = [] → Q .normal a' w') → wpList P ops Q l a w
  | [], t, h, ν, a, w, K, H, ht, hd, hk, hq => hq ⟨t, h⟩ ν a w hk (Nat.le_refl _) (fun _ _ => rfl) H ht hd
  | o :: l, t, h, ν, a, w, K, H, ht, hd, hk, hq => by
    simp only [List.map_cons, execOps_cons] at hk
    have go : ∀ (t' : List S) (h' : List Ob) (ν' : Nat → Env) (s : S) (a' : Act) (w' : World), GPost W w0 S0 ν h.length (fun t' h' _ => execOps (std W) tt callK (l.map (coOf ops.toList)) t' h' K) a' w' t' h' ν' s → wpList P ops Q l a' w' := by
      intro t' h' ν' s a' w' g
      refine execOps_sound hT hcall l g.hok g.tok g.def_ g.k fun st ν'' a'' w'' k1 k2 k3 k4 k5 k6 => hq st ν'' a'' w'' k1 (Nat.le_trans g.le k2) (fun i hi => (k3 i (Nat.lt_of_lt_of_le hi g.le)).trans (g.ext i hi)) k4 k5 k6
    rcases runG_sound hT hcall H ht hd hk with ⟨h1, h2⟩ | ⟨h1, t', g⟩
    · refine wpList_step fun K' hK' => ?_
      rw [if_pos h1]
      exact h2 K' Q fun t' h' ν' s v a' w' _ g => hK' _ _ (go t' h' ν' s a' w' g)
    · refine wpList_step fun K' hK' => ?_
      rw [if_neg (by rw [h1]; decide)]
      exact hK' _ _ (go t' h ν .un _ _ g)
end
end Go.SX

namespace Go.SX
open Go.RowKit
inductive Desc (ops : Array Oper) (i : Nat) : Nat → Prop
  | one {j : Nat} {o : Oper} {e : Edge} (ho : ops[j]? = some o) (he : e ∈ o.after) (hb : Region.binds .any e = true) (h : e.on = i) : Desc ops i j
  | more {j : Nat} {o : Oper} {e : Edge} (ho : ops[j]? = some o) (he : e ∈ o.after) (hb : Region.binds .any e = true) (h : Desc ops i e.on) : Desc ops i j
def Closed (ops : Array Oper) (listed : Array Bool) : Prop := ∀ j, listed.getD j false = true → ∀ o, ops[j]? = some o → ∀ e ∈ o.after, Region.binds .any e = true → listed.getD e.on false = true
theorem desc_listed {ops : Array Oper} {listed : Array Bool} (hc : Closed ops listed) {i j : Nat} (hd : Desc ops i j) : (∀ o, ops[j]? = some o → ∀ e ∈ o.after, Region.binds .any e = true → listed.getD e.on false = true) → listed.getD i false = true := by
  induction hd with
  | one ho he hb h => intro hj; rw [← h]; exact hj _ ho _ he hb
  | more ho he hb h ih => intro hj; exact ih (hc _ (hj _ ho _ he hb))
theorem ready_not_desc {ops : Array Oper} {listed : Array Bool} (hc : Closed ops listed) {i j : Nat} (hj : j ∈ Region.ready .any ops listed) (hi : listed.getD i true = false) : ¬ Desc ops i j := by
  intro hd
  obtain ⟨_, o, ho, hall⟩ := mem_ready.1 hj
  have h1 := desc_listed hc hd (fun o' ho' e he hb => by rw [ho] at ho'; cases ho'; exact hall e he hb)
  rcases Nat.lt_or_ge i listed.size with h | h
  · simp [h] at hi h1; rw [hi] at h1; cases h1
  · simp [Array.getElem?_eq_none h] at hi
theorem closed_set {ops : Array Oper} {listed : Array Bool} (hc : Closed ops listed) {j : Nat} (hj : j ∈ Region.ready .any ops listed) : Closed ops (listed.setIfInBounds j true) := by
  intro k hk o ho e he hb
  refine getD_set_true ?_
  by_cases hkj : j = k
  · subst hkj
    obtain ⟨_, o', ho', hall⟩ := mem_ready.1 hj
    rw [ho] at ho'; cases ho'
    exact hall e he hb
  · rw [getD_set_ne false hkj] at hk
    exact hc k hk o ho e he hb

section
variable {W : Addr → Nat → Nat → Option (List S)}
variable {P : Program} {ops : Array Oper} {Q : Exit → Act → World → Prop}
def wpAnyS (P : Program) (ops : Array Oper) (Q : Exit → Act → World → Prop) : Nat → Array Bool → (Nat → World → Prop) → Act → World → Prop
  | 0, listed, _, a, w => Region.ready .any ops listed = [] ∧ Q .normal a w
  | n + 1, listed, pend, a, w => (Region.ready .any ops listed = [] → Q .normal a w) ∧
    ∀ j ∈ Region.ready .any ops listed, wpOp P ops Q j (fun a' w' => (∀ k, ¬ Desc ops k j → pend k w') ∧ wpAnyS P ops Q n (listed.setIfInBounds j true) (fun k w => ¬ Desc ops k j → pend k w) a' w') a w
theorem wpAnyS_weaken : ∀ (n : Nat) {listed : Array Bool} {p q : Nat → World → Prop} {a : Act} {w : World}, (∀ k w, p k w → q k w) → wpAnyS P ops Q n listed p a w → wpAnyS P ops Q n listed q a w
  | 0, _, _, _, _, _, _, h => h
  | n + 1, _, _, _, _, _, hpq, h => ⟨h.1, fun j hj => wpOp_mono (fun _ w' h2 => ⟨fun k hk => hpq k w' (h2.1 k hk), wpAnyS_weaken n (fun k w h3 hk => hpq k w (h3 hk)) h2.2⟩) (h.2 j hj)⟩
theorem wpAnyS_any : ∀ (n : Nat) {listed : Array Bool} {p : Nat → World → Prop} {a : Act} {w : World}, wpAnyS P ops Q n listed p a w → wpAny P .any ops Q n listed a w
  | 0, _, _, _, _, h => h
  | n + 1, _, _, _, _, h => ⟨h.1, fun j hj => wpOp_mono (fun _ _ h2 => wpAnyS_any n h2.2) (h.2 j hj)⟩
def YieldsI (P : Program) (ops : Array Oper) (o : Oper) (I : World → Prop) (v : Value) (a : Act) : Prop :=
  (Region.wanted o (yielded ops a.tmps) = true ∧ ∀ w, I w → (execOp a.eval o).run P w = .ok (.value v) w) ∨ (Region.wanted o (yielded ops a.tmps) = false ∧ v = undef)
theorem YieldsI.wpOp {i : Nat} {o : Oper} {I : World → Prop} {v : Value} {a : Act} (hi : ops[i]? = some o) (hy : YieldsI P ops o I v a) {K : Act → World → Prop} {w : World} (hw : I w) (h : K (a.put o.dst v) w) : wpOp P ops Q i K a w := by
  unfold Go.wpOp
  simp only [hi]
  rcases hy with ⟨h1, hv⟩ | ⟨h1, rfl⟩
  · simp only [h1, if_true, Oper.wp, hv w hw, Oper.upon]; exact .inl h
  · simp only [h1, Bool.false_eq_true, if_false]; exact h
theorem YieldsI.of_same {o : Oper} {I : World → Prop} {v : Value} {a a' : Act} (hy : YieldsI P ops o I v a) (he : execOp a'.eval o = execOp a.eval o) (hw : Region.wanted o (yielded ops a'.tmps) = Region.wanted o (yielded ops a.tmps)) : YieldsI P ops o I v a' := by
  unfold YieldsI at *
  rw [he, hw]
  exact hy
theorem wpOp_putI {j : Nat} {oi oj : Oper} {I : World → Prop} {v : Value} (hj : ops[j]? = some oj) (hap : oi.apart ops oj = true) (hsi : ∀ cs b, oi.op ≠ .select cs b) (hsj : ∀ cs b, oj.op ≠ .select cs b)
    (hQ : ∀ c a w, ¬ Q (.panic c) a w) {K : Act → World → Prop} {a : Act} {w : World} (hy : YieldsI P ops oi I v a) (h : wpOp P ops Q j K (a.put oi.dst v) w) :
    wpOp P ops Q j (fun a' w' => YieldsI P ops oi I v a' ∧ K (a'.put oi.dst v) w') a w := by
  obtain ⟨h1, h2, h3⟩ := Oper.apart_spec hap
  have keep : ∀ (a : Act), YieldsI P ops oi I v a → ∀ u, YieldsI P ops oi I v (a.put oj.dst u) := fun a hy u => hy.of_same (execOp_put oi hsi a oj.dst u h3) (wanted_put oi a oj.dst u h3)
  have keepD : ∀ d, YieldsI P ops oi I v { a with defers := d :: a.defers } := fun d => hy.of_same rfl rfl
  unfold wpOp at *
  simp only [hj] at *
  rw [wanted_put oj a oi.dst v h1] at h
  split
  · rename_i hw
    simp only [hw, if_true] at h
    rcases h with h | ⟨hasks, hlets⟩
    case inr => exact .inr ⟨by unfold Oper.asks at *; rw [execOp_put oj hsj a oi.dst v h1] at hasks; exact hasks, hlets⟩
    refine .inl ?_
    unfold Oper.wp at *
    rw [execOp_put oj hsj a oi.dst v h1] at h
    generalize (execOp a.eval oj).run P w = r at *
    cases r with
    | ok n w' =>
      cases n <;> simp only [Oper.upon] at h ⊢
      case value u => exact ⟨keep a hy u, by rw [← Act.put_comm a v u h2]; exact h⟩
      case skip => exact ⟨keep a hy _, by rw [← Act.put_comm a v undef h2]; exact h⟩
      case defer d =>
        refine ⟨keep _ (keepD d) _, ?_⟩
        rw [← Act.put_comm _ v undef h2, ← Act.put_defers]
        exact h
      case enter f args =>
        refine Calls.mono h fun e w'' he => ?_
        cases e with
        | returned u => exact ⟨keep a hy u, by rw [← Act.put_comm a v u h2]; exact he⟩
        | panicked c => exact (hQ _ _ _ he).elim
        | outgrown => exact he
      case row row args => exact Rows.mono h fun u w'' he => ⟨keep a hy u, by rw [← Act.put_comm a v u h2]; exact he⟩
    | halt x w' =>
      cases x <;> simp only [Oper.upon] at h ⊢
      case panic u => exact (hQ _ _ _ h).elim
  · rename_i hw
    simp only [hw] at h
    exact ⟨keep a hy _, by rw [← Act.put_comm a v undef h2]; exact h⟩
theorem take_first {i : Nat} {oi : Oper} {I : World → Prop} {v : Value} (hi : ops[i]? = some oi) (hsel : ∀ (j : Nat) (o : Oper) cs b, ops[j]? = some o → o.op ≠ .select cs b) (hQ : ∀ c a w, ¬ Q (.panic c) a w) :
    ∀ (fuel : Nat) (listed : Array Bool) (pend : Nat → World → Prop) (a : Act) (w : World), Closed ops listed →
      (∀ j oj, ops[j]? = some oj → j ≠ i → listed.getD j true = false → (∀ e ∈ oj.after, Region.binds .any e = true → e.on ≠ i) → oi.apart ops oj = true) →
      i ∈ Region.ready .any ops listed → YieldsI P ops oi I v a → I w → (∀ k, pend k w) →
      wpAnyS P ops Q fuel (listed.setIfInBounds i true) (fun k w => (k = i → I w) ∧ pend k w) (a.put oi.dst v) w → wpAnyS P ops Q (fuel + 1) listed pend a w := by
  intro fuel
  induction fuel with
  | zero =>
    intro listed pend a w _ _ hr hy hI hp H
    refine ⟨fun h => (by rw [h] at hr; cases hr), fun j hj => ?_⟩
    by_cases hji : j = i
    · subst hji; exact hy.wpOp hi hI ⟨fun k _ => hp k, H⟩
    · have := ready_mono hj hji
      rw [H.1] at this
      cases this
  | succ fuel ih =>
    intro listed pend a w hcl hfree hr hy hI hp H
    refine ⟨fun h => (by rw [h] at hr; cases hr), fun j hj => ?_⟩
    by_cases hji : j = i
    · subst hji
      exact hy.wpOp hi hI ⟨fun k _ => hp k, wpAnyS_weaken _ (fun k w h _ => h.2) H⟩
    · have h1 := H.2 j (ready_mono hj hji)
      obtain ⟨hjun, oj, hoj, hall⟩ := mem_ready.1 hj
      have hun := (mem_ready.1 hr).1
      have hnd : ¬ Desc ops i j := ready_not_desc hcl hj hun
      have hnot : ∀ e ∈ oj.after, Region.binds .any e = true → e.on ≠ i := fun e he hb heq => hnd (.one hoj he hb heq)
      have h2 := wpOp_putI hoj (hfree j oj hoj hji hjun hnot) (fun cs b => hsel i oi cs b hi) (fun cs b => hsel j oj cs b hoj) hQ hy h1
      have hfree' : ∀ k ok, ops[k]? = some ok → k ≠ i → (listed.setIfInBounds j true).getD k true = false →
          (∀ e ∈ ok.after, Region.binds .any e = true → e.on ≠ i) → oi.apart ops ok = true := fun k ok hk hki hun hno => by
        refine hfree k ok hk hki ?_ hno
        by_cases hjk : j = k
        · subst hjk; exact hjun
        · rw [getD_set_ne true hjk] at hun; exact hun
      refine wpOp_mono (fun a' w' h3 => ?_) h2
      obtain ⟨h4, h5, h6⟩ := h3
      refine ⟨fun k hk => (h5 k hk).2, ?_⟩
      refine ih (listed.setIfInBounds j true) _ a' w' (closed_set hcl hj) hfree' (ready_mono hr (Ne.symm hji)) h4 ((h5 i hnd).1 rfl) (fun k hk => (h5 k hk).2) ?_
      rw [Array.setIfInBounds_comm _ _ hji]
      refine wpAnyS_weaken _ (fun k w h7 => ?_) h6
      refine ⟨fun hki => ?_, fun hk => (h7 hk).2⟩
      subst hki
      exact (h7 hnd).1 rfl
end
end Go.SX

namespace Go.SX
open Go.RowKit
mutual
theorem sure_unique {m : Nat} {ν : Nat → Env} : ∀ (s : S) (u v : Value), S.sure s = true → s.ok m ν u → s.ok m ν v → u = v
  | .il k n, u, v, _, h1, h2 => by simp only [S.ok] at h1 h2; rw [h1, h2]
  | .iv k n, u, v, _, h1, h2 => by simp only [S.ok] at h1 h2; rw [h1, h2]
  | .bl x, u, v, _, h1, h2 => by simp only [S.ok] at h1 h2; rw [h1, h2]
  | .bv x, u, v, _, h1, h2 => by simp only [S.ok] at h1 h2; rw [h1, h2]
  | .tl x, u, v, _, h1, h2 => by simp only [S.ok] at h1 h2; rw [h1, h2]
  | .tv x, u, v, _, h1, h2 => by simp only [S.ok] at h1 h2; rw [h1, h2]
  | .ptr id off, u, v, _, h1, h2 => by simp only [S.ok] at h1 h2; rw [h1.2, h2.2]
  | .rp a off, u, v, _, h1, h2 => by simp only [S.ok] at h1 h2; rw [h1, h2]
  | .nil, u, v, _, h1, h2 => by simp only [S.ok] at h1 h2; rw [h1, h2]
  | .sli id off len c z, u, v, hs, h1, h2 => by
    have hz : z = false := by simpa [S.sure] using hs
    simp only [S.ok] at h1 h2
    obtain ⟨_, _, _, a, h3, h4⟩ := h1
    obtain ⟨_, _, _, b, h5, h6⟩ := h2
    rw [h3, h5, h4 (Or.inl hz), h6 (Or.inl hz)]
  | .raw x, u, v, _, h1, h2 => by simp only [S.ok] at h1 h2; rw [h1, h2]
  | .zsl, u, v, hs, h1, h2 => by simp [S.sure] at hs
  | .tsl _ _ _, u, v, hs, h1, h2 => by simp [S.sure] at hs
  | .pel id i sz off, u, v, _, h1, h2 => by simp only [S.ok] at h1 h2; rw [h1.2.2, h2.2.2]
  | .nsl id len p z, u, v, hs, h1, h2 => by
    have hz : z = false := by simpa [S.sure] using hs
    simp only [S.ok] at h1 h2
    obtain ⟨_, _, _, h1⟩ := h1
    obtain ⟨_, _, _, h2⟩ := h2
    rcases h1 with ⟨g0, a, c1, rfl, ha⟩ | ⟨g0, _, _, rfl⟩ <;> rcases h2 with ⟨k0, b, c2, rfl, hb⟩ | ⟨k0, _, _, rfl⟩
    · rw [(ha hz).1, (hb hz).1, (ha hz).2, (hb hz).2]
    · omega
    · omega
    · rfl
  | .fn f cs, u, v, hs, h1, h2 => by
    simp only [S.ok] at h1 h2
    obtain ⟨us, rfl, h3⟩ := h1
    obtain ⟨vs, rfl, h4⟩ := h2
    rw [sures_unique cs us vs (by simpa [S.sure] using hs) h3 h4]
  | .bm f cs, u, v, hs, h1, h2 => by
    simp only [S.ok] at h1 h2
    obtain ⟨us, rfl, h3⟩ := h1
    obtain ⟨vs, rfl, h4⟩ := h2
    rw [sures_unique cs us vs (by simpa [S.sure] using hs) h3 h4]
  | .ifc t x, u, v, hs, h1, h2 => by
    simp only [S.ok] at h1 h2
    obtain ⟨us, rfl, h3⟩ := h1
    obtain ⟨vs, rfl, h4⟩ := h2
    rw [sure_unique x us vs (by simpa [S.sure] using hs) h3 h4]
  | .mp id, u, v, _, h1, h2 => by simp only [S.ok] at h1 h2; rw [h1.2, h2.2]
  | .agg cs, u, v, hs, h1, h2 => by
    simp only [S.ok] at h1 h2
    obtain ⟨us, rfl, h3⟩ := h1
    obtain ⟨vs, rfl, h4⟩ := h2
    rw [sures_unique cs us vs (by simpa [S.sure] using hs) h3 h4]
  | .tup cs, u, v, hs, h1, h2 => by
    simp only [S.ok] at h1 h2
    obtain ⟨us, rfl, h3⟩ := h1
    obtain ⟨vs, rfl, h4⟩ := h2
    rw [sures_unique cs us vs (by simpa [S.sure] using hs) h3 h4]
  | .un, u, v, _, h1, h2 => by simp only [S.ok] at h1 h2; rw [h1, h2]
  | .junk, u, v, hs, _, _ => by simp [S.sure] at hs
theorem sures_unique {m : Nat} {ν : Nat → Env} : ∀ (cs : List S) (us vs : List Value), S.sure.sures cs = true → oks m ν cs us → oks m ν cs vs → us = vs
  | [], us, vs, _, h1, h2 => by simp only [S.oks] at h1 h2; rw [h1, h2]
  | c :: cs, us, vs, hs, h1, h2 => by
    simp only [S.oks] at h1 h2
    obtain ⟨u, us', rfl, h3, h4⟩ := h1
    obtain ⟨v, vs', rfl, h5, h6⟩ := h2
    simp only [S.sure.sures, Bool.and_eq_true] at hs
    rw [sure_unique c u v hs.1 h3 h5, sures_unique cs us' vs' hs.2 h4 h6]
end
theorem maskE_desc {ops : Array Oper} {acc : List Nat} (hacc : ∀ j, j < acc.length → ∀ i, (acc.getD j 0).testBit i = true → Desc ops i j) {j : Nat} {o : Oper} (ho : ops[j]? = some o) :
    ∀ (es : List Edge), (∀ e ∈ es, e ∈ o.after) → ∀ i, (maskE acc es).testBit i = true → Desc ops i j
  | [], _, i, h => by simp [maskE] at h
  | e :: es, hes, i, h => by
    have ih := maskE_desc hacc ho es (fun e' he' => hes e' (by simp [he']))
    simp only [maskE] at h
    split at h
    · rename_i hb
      simp only [Nat.testBit_or, Bool.or_eq_true] at h
      rcases h with (h | h) | h
      · rw [Nat.testBit_two_pow] at h
        exact .one ho (hes e (by simp)) hb (by simpa using h)
      · rcases Nat.lt_or_ge e.on acc.length with hl | hl
        · exact .more ho (hes e (by simp)) hb (hacc _ hl i h)
        · rw [List.getD_eq_getElem?_getD, List.getElem?_eq_none hl] at h; simp at h
      · exact ih i h
    · exact ih i h
theorem masks_desc {ops : Array Oper} : ∀ (l : List Oper) (acc : List Nat), (∀ k, l[k]? = ops[acc.length + k]?) → (∀ j, j < acc.length → ∀ i, (acc.getD j 0).testBit i = true → Desc ops i j) →
    ∀ j i, ((masks l acc).getD j 0).testBit i = true → Desc ops i j
  | [], acc, _, hacc, j, i, h => by
    simp only [masks] at h
    rcases Nat.lt_or_ge j acc.length with hl | hl
    · exact hacc j hl i h
    · rw [List.getD_eq_getElem?_getD, List.getElem?_eq_none hl] at h; simp at h
  | o :: l, acc, hl, hacc, j, i, h => by
    simp only [masks] at h
    refine masks_desc l _ (fun k => ?_) (fun j hj i hi => ?_) j i h
    · have := hl (k + 1); simpa [Nat.add_assoc, Nat.add_comm 1 k] using this
    · simp only [List.length_append, List.length_singleton] at hj
      rcases Nat.lt_or_ge j acc.length with h1 | h1
      · rw [List.getD_eq_getElem?_getD, List.getElem?_append_left h1, ← List.getD_eq_getElem?_getD] at hi
        exact hacc j h1 i hi
      · have hj' : j = acc.length := by omega
        subst hj'
        rw [List.getD_eq_getElem?_getD, List.getElem?_append_right (Nat.le_refl _)] at hi
        simp only [Nat.sub_self, List.getElem?_cons_zero, Option.getD_some] at hi
        have ho : ops[acc.length]? = some o := by have := hl 0; simpa using this.symm
        exact maskE_desc hacc ho o.after.toList (fun e he => by simpa using he) i hi
section
variable {W : Addr → Nat → Nat → Option (List S)}
variable {P : Program} {tt : Nat → Option TI} {w0 w : World} {S0 : List Nat} {ν : Nat → Env} {h : List Ob}
variable {callK : FuncId → List S → List Ob → (S → List Ob → Prop) → Prop}
theorem runG_pure (hT : TOk P tt) {ops : Array Oper} {o : Oper} {t : List S} {a : Act} {K : List S → List Ob → S → Prop} (hp : isPure o.op = true) (H : HOk W w0 S0 ν h w) (ht : oks h.length ν t a.tmps.toList) (hk : runG (std W) tt callK (coP ops.toList o) t h K) :
    ∃ v s t' h', YieldsI P ops o (fun _ => True) v a ∧ K t' h' s ∧ h'.length = h.length ∧ HOk W w0 S0 ν h' w ∧ oks h.length ν t' (a.put o.dst v).tmps.toList := by
  rw [runP_eq _ _ _ hp] at hk
  rcases guardD_cases ht hk with ⟨h1, t', ht', hk⟩ | ⟨h1, t', ht', hk⟩
  · obtain ⟨s, v, g1, g2, g3⟩ := pure_sound hT hp (fun x => ev_ok ht' x) hk
    obtain ⟨s2, h2, k1, k2, k3, k4⟩ := orcS_ok H g2 g1
    exact ⟨v, s2, _, h2, Or.inl ⟨h1, fun w _ => g3 w⟩, k1, k2, k3, putD_ok o.dst ht' k4⟩
  · exact ⟨undef, _, _, h, Or.inr ⟨h1, rfl⟩, hk, rfl, H, putD_ok o.dst ht' (by simp only [S.ok])⟩

abbrev LE := Nat × TypeId × S × S
abbrev PE := Nat × TypeId × Value × Value
def LRel (P : Program) (w : World) (m : Nat) (ν : Nat → Env) : List LE → List PE → Prop
  | [], ps => ps = []
  | (i, t, a, s) :: L, ps => ∃ av v ps', ps = (i, t, av, v) :: ps' ∧ a.ok m ν av ∧ s.ok m ν v ∧ S.sure s = true ∧ (Instr.loadAt t av).run P w = .ok v w ∧ LRel P w m ν L ps'
def pendOf (P : Program) (ps : List PE) (k : Nat) (w : World) : Prop := ∀ p ∈ ps, p.1 = k → (Instr.loadAt p.2.1 p.2.2.1).run P w = .ok p.2.2.2 w
theorem LRel.pend {m : Nat} : ∀ {L : List LE} {ps : List PE}, LRel P w m ν L ps → ∀ k, pendOf P ps k w
  | [], ps, hl, k => by simp only [LRel] at hl; subst hl; intro p hp; cases hp
  | (i, t, a, s) :: L, ps, hl, k => by
    simp only [LRel] at hl
    obtain ⟨av, v, ps', rfl, _, _, _, h4, h5⟩ := hl
    intro p hp hk
    rcases List.mem_cons.1 hp with rfl | hp
    · exact h4
    · exact LRel.pend h5 k p hp hk
theorem LRel.idx {m : Nat} : ∀ {L : List LE} {ps : List PE}, LRel P w m ν L ps → ∀ p ∈ ps, ∃ x ∈ L, x.1 = p.1
  | [], ps, hl => by simp only [LRel] at hl; subst hl; intro p hp; cases hp
  | (i, t, a, s) :: L, ps, hl => by
    simp only [LRel] at hl
    obtain ⟨av, v, ps', rfl, _, _, _, h4, h5⟩ := hl
    intro p hp
    rcases List.mem_cons.1 hp with rfl | hp
    · exact ⟨(i, t, a, s), by simp, rfl⟩
    · obtain ⟨x, hx, he⟩ := LRel.idx h5 p hp; exact ⟨x, by simp [hx], he⟩
theorem LRel.step (hT : TOk P tt) {w' : World} {ν' : Nat → Env} {h' : List Ob} {m : Nat} (H' : HOk W w0 S0 ν' h' w') (he : ∀ i, i < m → ν' i = ν i) (hm : m ≤ h'.length) (f : Nat → Bool) :
    ∀ {L : List LE} {ps : List PE}, LRel P w m ν L ps → (∀ x ∈ L.filter (fun x => f x.1), loadS (std W) tt x.2.1 x.2.2.1 h' = some x.2.2.2) → LRel P w' h'.length ν' (L.filter fun x => f x.1) (ps.filter fun p => f p.1)
  | [], ps, hl, _ => by simp only [LRel] at hl; subst hl; simp [LRel]
  | (i, t, a, s) :: L, ps, hl, hc => by
    simp only [LRel] at hl
    obtain ⟨av, v, ps', rfl, h1, h2, h3, h4, h5⟩ := hl
    cases hf : f i with
    | false =>
      rw [List.filter_cons_of_neg (by simp [hf]), List.filter_cons_of_neg (by simp [hf])]
      rw [List.filter_cons_of_neg (by simp [hf])] at hc
      exact LRel.step hT H' he hm f h5 hc
    | true =>
      rw [List.filter_cons_of_pos (by simp [hf]), List.filter_cons_of_pos (by simp [hf])]
      rw [List.filter_cons_of_pos (by simp [hf])] at hc
      have hl := hc (i, t, a, s) (by simp)
      have ha' := S.ok_mono he hm _ _ h1
      obtain ⟨u, g1, g2⟩ := loadS_sound hT H' hl ha'
      have hs' := S.ok_mono he hm _ _ h2
      have huv := sure_unique s u v h3 g1 hs'
      subst huv
      simp only [LRel]
      exact ⟨av, u, _, rfl, ha', hs', h3, g2, LRel.step hT H' he hm f h5 fun x hx => hc x (by simp [hx])⟩
theorem sureK_ok {W : Addr → Nat → Nat → Option (List S)} {v : S} {K : S → Prop} (h : sureK (std W) v K) : ∃ v', K v' ∧ S.sure v' = true ∧ ∀ m ν u, v.ok m ν u → v'.ok m ν u := by
  unfold sureK at h
  split at h
  · rename_i hs
    exact ⟨v, h, hs, fun _ _ _ h => h⟩
  split at h
  case h_2 => exact h.elim
  rename_i id len p hs0
  split at h
  case isFalse => exact h.elim
  rename_i hl
  refine ⟨_, h, rfl, fun m ν u hv => ?_⟩
  have hp : 0 < len.val := by
    have : stdB .lt 0 len.z = true := hl
    simp only [stdB, decide_eq_true_eq, NN.z_eq] at this
    omega
  simp only [S.ok] at hv ⊢
  obtain ⟨h1, h2, h3, h4⟩ := hv
  refine ⟨h1, h2, h3, ?_⟩
  rcases h4 with ⟨h5, _⟩ | h4
  · omega
  · exact Or.inr h4
theorem checkL_iff : ∀ {L : List LE} {h : List Ob} {X : Prop}, checkL (std W) tt L h X → (∀ x ∈ L, loadS (std W) tt x.2.1 x.2.2.1 h = some x.2.2.2) ∧ X
  | [], h, X, hc => ⟨by simp, hc⟩
  | (i, t, a, s) :: L, h, X, hc => by
    obtain ⟨h1, h2⟩ : loadS (std W) tt t a h = some s ∧ checkL (std W) tt L h X := by
      simp only [checkL] at hc
      split at hc
      · rename_i hs
        exact ⟨sameO_eq hs, hc⟩
      · exact hc
    obtain ⟨h3, h4⟩ := checkL_iff h2
    refine ⟨fun x hx => ?_, h4⟩
    rcases List.mem_cons.1 hx with rfl | hx
    · exact h1
    · exact h3 x hx
theorem execD_sound (hT : TOk P tt) (hcall : ∀ f args h K, callK f args h K → CallSem W P f args h K) {ops : Array Oper} {Q : Exit → Act → World → Prop} (hQ : ∀ c a w, ¬ Q (.panic c) a w) (hsel : Region.noSelect ops = true) {ms : List Nat} (hms : ∀ j i, (ms.getD j 0).testBit i = true → Desc ops i j) :
    ∀ (n : Nat) (listed : Array Bool) (taken : List Nat) (ps : List DStep) (L : List LE) (PL : List PE) (t : List S) (h : List Ob) (ν : Nat → Env) (a : Act) (w : World) (K : St → Prop),
      planGo ops ms n listed taken = some ps → Closed ops listed → (∀ x ∈ L, x.1 ∈ taken) → LRel P w h.length ν L PL → HOk W w0 S0 ν h w → oks h.length ν t a.tmps.toList → a.defers = [] →
      execD (std W) tt callK ps t h L K →
      (∀ (st : St) (ν' : Nat → Env) (a' : Act) (w' : World), K st → h.length ≤ st.h.length → (∀ i, i < h.length → ν' i = ν i) → HOk W w0 S0 ν' st.h w' → oks st.h.length ν' st.t a'.tmps.toList → a'.defers = [] → Q .normal a' w') →
      wpAnyS P ops Q ps.length listed (pendOf P PL) a w := by
  intro n
  induction n with
  | zero => intro listed taken ps L PL t h ν a w K hp; simp [planGo] at hp
  | succ n ih =>
    intro listed taken ps L PL t h ν a w K hp hcl hLt hLR H ht hd hk hq
    simp only [planGo] at hp
    split at hp
    · rename_i hr
      simp only [Option.some.injEq] at hp
      subst hp
      exact ⟨hr, hq ⟨t, h⟩ ν a w hk (Nat.le_refl _) (fun _ _ => rfl) H ht hd⟩
    · rename_i r rs hr
      split at hp
      · -- taken ahead
        rename_i i hfind
        split at hp
        case h_2 => cases hp
        rename_i o ho
        split at hp
        case h_2 => cases hp
        rename_i ps' hps
        simp only [Option.some.injEq] at hp
        subst hp
        have hmem : i ∈ Region.ready .any ops listed := by rw [hr]; exact List.mem_of_find?_eq_some hfind
        have hcond := List.find?_some hfind
        rw [ho] at hcond
        simp only [Bool.and_eq_true, Bool.or_eq_true] at hcond
        obtain ⟨hlp, hfree⟩ := hcond
        have hfree' := fun j oj hj hne hun hno => Region.free_spec (md := .any) ho hfree j oj hj hne hun hno
        have hsel' := Region.noSelect_spec hsel
        rcases hlp with hload | hpure
        · -- a load
          cases hop : o.op with
          | load ty x =>
            have hlo : stepOf ops.toList i o = .load i (coP ops.toList o) ty x := by simp only [stepOf, hop, loadOp]
            rw [hlo] at hk
            simp only [execD_load] at hk
            have hlt : isLoad o.op = true := hload
            rw [hlt] at hps
            simp only [if_true] at hps
            have hdst : (coP ops.toList o).dst = o.dst := rfl
            rcases guardD_cases ht hk with ⟨hw, t', ht', hk⟩ | ⟨hw, t', ht', hk⟩
            · obtain ⟨s, hs, hk⟩ := someK_iff hk
              obtain ⟨s', hk, hsure, hso⟩ := sureK_ok hk
              obtain ⟨v, hv0, hv2⟩ := loadS_sound hT H hs (ev_ok ht x)
              have hv1 := hso _ _ _ hv0
              rw [hdst, putDK_eq] at hk
              refine take_first ho hsel' hQ ps'.length listed (pendOf P PL) a w (I := fun w' => (Instr.loadAt ty (a.eval x)).run P w' = .ok v w') (v := v) hcl hfree' hmem
                (Or.inl ⟨hw, fun w' hw' => by obtain ⟨d0, op0, ty0, p0, af0, g0⟩ := o; simp only at hop; subst hop; simp [execOp, hw']⟩) hv2 (fun k => hLR.pend k) ?_
              refine wpAnyS_weaken _ (fun k w' hpk => ?_) (ih _ (i :: taken) ps' ((i, ty, evS t x, s') :: L) ((i, ty, a.eval x, v) :: PL) _ h ν _ w K hps (closed_set hcl hmem) ?_ ?_ H (putD_ok o.dst ht' hv1) (by rw [put_defers]; exact hd) hk hq)
              · exact ⟨fun hki => hpk (i, ty, a.eval x, v) (by simp) hki.symm, fun p hp hk => hpk p (by simp [hp]) hk⟩
              · intro y hy
                rcases List.mem_cons.1 hy with rfl | hy
                · simp
                · simp [hLt y hy]
              · simp only [LRel]
                exact ⟨_, _, _, rfl, ev_ok ht x, hv1, hsure, hv2, hLR⟩
            · rw [hdst, putDK_eq] at hk
              refine take_first ho hsel' hQ ps'.length listed (pendOf P PL) a w (I := fun _ => True) (v := undef) hcl hfree' hmem (Or.inr ⟨hw, rfl⟩) trivial (fun k => hLR.pend k) ?_
              exact wpAnyS_weaken _ (fun k w' hpk => ⟨fun _ => trivial, hpk⟩) (ih _ (i :: taken) ps' L PL _ h ν _ w K hps (closed_set hcl hmem) (fun y hy => by simp [hLt y hy]) hLR H (putD_ok o.dst ht' (by simp only [S.ok])) (by rw [put_defers]; exact hd) hk hq)
          | _ => rw [hop] at hload; simp [isLoad] at hload
        · -- a pure one
          have hnl : isLoad o.op = false := by
            cases hop : o.op with
            | load ty x => rw [hop] at hpure; simp [isPure] at hpure
            | _ => rfl
          rw [hnl] at hps
          simp only [Bool.false_eq_true, if_false] at hps
          have hlo : stepOf ops.toList i o = .take i (coP ops.toList o) := by
            unfold stepOf
            cases hop : o.op with
            | load ty x => rw [hop] at hnl; simp [isLoad] at hnl
            | _ => rfl
          rw [hlo] at hk
          simp only [execD_take] at hk
          have hk' : runG (std W) tt callK (coP ops.toList o) t h (fun t' h' _ => execD (std W) tt callK ps' t' h' L K) := hk
          obtain ⟨v, s, t', h2, hy, hk2, hl2, H2, ht'⟩ := runG_pure hT hpure H ht hk'
          refine take_first ho hsel' hQ ps'.length listed (pendOf P PL) a w (I := fun _ => True) (v := v) hcl hfree' hmem hy trivial (fun k => hLR.pend k) ?_
          exact wpAnyS_weaken _ (fun k w' hpk => ⟨fun _ => trivial, hpk⟩) (ih _ taken ps' L PL t' h2 ν _ w K hps (closed_set hcl hmem) hLt (by rw [hl2]; exact hLR) H2 (by rw [hl2]; exact ht') (by rw [put_defers]; exact hd) hk2 (by rw [hl2]; exact hq))
      · -- the only one
        split at hp
        case h_2 => cases hp
        rename_i o ho hfn
        split at hp
        case h_2 => cases hp
        rename_i ps' hps
        simp only [Option.some.injEq] at hp
        subst hp
        simp only [execD_one, filtK_eq] at hk
        refine ⟨fun h0 => (by rw [hr] at h0; cases h0), fun j hj => ?_⟩
        have hj' : j = r := by rw [hr] at hj; simpa using hj
        subst hj'
        have fin : ∀ (t' : List S) (h' : List Ob) (ν' : Nat → Env) (s : S) (a' : Act) (w' : World), GPost W w0 S0 ν h.length (fun t' h' _ => checkL (std W) tt (L.filter fun x => (taken.filter fun l => !(ms.getD j 0).testBit l).contains x.1) h' (execD (std W) tt callK ps' t' h' (L.filter fun x => (taken.filter fun l => !(ms.getD j 0).testBit l).contains x.1) K)) a' w' t' h' ν' s →
            (∀ k, ¬ Desc ops k j → pendOf P PL k w') ∧ wpAnyS P ops Q ps'.length (listed.setIfInBounds j true) (fun k w => ¬ Desc ops k j → pendOf P PL k w) a' w' := by
          intro t' h' ν' s a' w' g
          obtain ⟨hc1, hc2⟩ := checkL_iff g.k
          have hLR' := hLR.step hT g.hok g.ext g.le (fun k => (taken.filter fun l => !(ms.getD j 0).testBit l).contains k) hc1
          have hkeep : ∀ p ∈ PL, ¬ Desc ops p.1 j → p ∈ PL.filter fun p => (taken.filter fun l => !(ms.getD j 0).testBit l).contains p.1 := by
            intro p hp hnd
            obtain ⟨x, hx, he⟩ := hLR.idx p hp
            have h1 := hLt x hx
            rw [he] at h1
            refine List.mem_filter.2 ⟨hp, ?_⟩
            simp only [List.contains_eq_mem, List.mem_filter, Bool.not_eq_true', decide_eq_true_eq]
            refine ⟨h1, ?_⟩
            cases hb : (ms.getD j 0).testBit p.1 with
            | false => rfl
            | true => exact absurd (hms j p.1 hb) hnd
          refine ⟨fun k hk p hp hpk => ?_, ?_⟩
          · subst hpk
            exact hLR'.pend p.1 p (hkeep p hp hk) rfl
          · refine wpAnyS_weaken _ (fun k w2 hpk hnd p hp hpe => ?_) (ih _ _ ps' _ _ t' h' ν' a' w' K hps (closed_set hcl hj) ?_ hLR' g.hok g.tok g.def_ hc2 fun st ν'' a'' w'' k1 k2 k3 k4 k5 k6 => hq st ν'' a'' w'' k1 (Nat.le_trans g.le k2) (fun i hi => (k3 i (Nat.lt_of_lt_of_le hi g.le)).trans (g.ext i hi)) k4 k5 k6)
            · subst hpe
              exact hpk p (hkeep p hp hnd) rfl
            · intro x hx
              have := (List.mem_filter.1 hx).2
              simpa using this
        unfold wpOp
        simp only [ho]
        rcases runG_sound hT hcall H ht hd hk with ⟨h1, h2⟩ | ⟨h1, t', g⟩
        · rw [if_pos h1]
          exact .inl (h2 _ Q fun t' h' ν' s v a' w' _ g => fin t' h' ν' s a' w' g)
        · rw [if_neg (by rw [h1]; decide)]
          exact fin t' h ν .un _ _ g
theorem forks_exec {f : Nat → Option DT} {t : List S} {h : List Ob} {L : List (Nat × TypeId × S × S)} {K : St → Prop} : ∀ {l : List Nat} {dt : DT}, forks f l = some dt → execT (std W) tt callK dt t h L K → ∀ j ∈ l, ∃ p, f j = some p ∧ execT (std W) tt callK p t h L K ∧ p.depth = dt.depth
  | [], dt, hf, hk, j, hj => by cases hj
  | [i], dt, hf, hk, j, hj => by
    simp only [forks] at hf
    rw [List.mem_singleton.1 hj]
    exact ⟨dt, hf, hk, rfl⟩
  | i :: k :: r, dt, hf, hk, j, hj => by
    simp only [forks] at hf
    split at hf
    case h_2 => cases hf
    rename_i a b ha hb
    split at hf
    case isFalse => cases hf
    rename_i hab
    simp only [Option.some.injEq] at hf
    subst hf
    rw [execT_fork] at hk
    rcases List.mem_cons.1 hj with rfl | hj
    · exact ⟨a, ha, hk.1, rfl⟩
    · have hb' : forks f (k :: r) = some b := by simpa only [forks] using hb
      obtain ⟨p, h1, h2, h3⟩ := forks_exec hb' hk.2 j hj
      exact ⟨p, h1, h2, h3.trans hab.symm⟩
theorem execT_sound (hT : TOk P tt) (hcall : ∀ f args h K, callK f args h K → CallSem W P f args h K) {ops : Array Oper} {Q : Exit → Act → World → Prop} (hQ : ∀ c a w, ¬ Q (.panic c) a w) (hsel : Region.noSelect ops = true) {ms : List Nat} (hms : ∀ j i, (ms.getD j 0).testBit i = true → Desc ops i j) :
    ∀ (n : Nat) (listed : Array Bool) (taken : List Nat) (ps : DT) (L : List LE) (PL : List PE) (t : List S) (h : List Ob) (ν : Nat → Env) (a : Act) (w : World) (K : St → Prop),
      planT ops ms n listed taken = some ps → Closed ops listed → (∀ x ∈ L, x.1 ∈ taken) → LRel P w h.length ν L PL → HOk W w0 S0 ν h w → oks h.length ν t a.tmps.toList → a.defers = [] →
      execT (std W) tt callK ps t h L K →
      (∀ (st : St) (ν' : Nat → Env) (a' : Act) (w' : World), K st → h.length ≤ st.h.length → (∀ i, i < h.length → ν' i = ν i) → HOk W w0 S0 ν' st.h w' → oks st.h.length ν' st.t a'.tmps.toList → a'.defers = [] → Q .normal a' w') →
      wpAnyS P ops Q ps.depth listed (pendOf P PL) a w := by
  intro n
  induction n with
  | zero => intro listed taken ps L PL t h ν a w K hp; simp [planT] at hp
  | succ n ih =>
    intro listed taken ps L PL t h ν a w K hp hcl hLt hLR H ht hd hk hq
    simp only [planT] at hp
    split at hp
    · rename_i hr
      simp only [Option.some.injEq] at hp
      subst hp
      exact ⟨hr, hq ⟨t, h⟩ ν a w hk (Nat.le_refl _) (fun _ _ => rfl) H ht hd⟩
    · rename_i r rs hr
      split at hp
      · -- taken ahead
        rename_i i hfind
        split at hp
        case h_2 => cases hp
        rename_i o ho
        split at hp
        case h_2 => cases hp
        rename_i ps' hps
        simp only [Option.some.injEq] at hp
        subst hp
        have hmem : i ∈ Region.ready .any ops listed := by rw [hr]; exact List.mem_of_find?_eq_some hfind
        have hcond := List.find?_some hfind
        rw [ho] at hcond
        simp only [Bool.and_eq_true, Bool.or_eq_true] at hcond
        obtain ⟨hlp, hfree⟩ := hcond
        have hfree' := fun j oj hj hne hun hno => Region.free_spec (md := .any) ho hfree j oj hj hne hun hno
        have hsel' := Region.noSelect_spec hsel
        rcases hlp with hload | hpure
        · -- a load
          cases hop : o.op with
          | load ty x =>
            have hlo : stepT ops.toList i o ps' = .load i (coP ops.toList o) ty x ps' := by simp only [stepT, hop, loadOp]
            rw [hlo] at hk ⊢
            simp only [execT_load] at hk
            have hlt : isLoad o.op = true := hload
            rw [hlt] at hps
            simp only [if_true] at hps
            have hdst : (coP ops.toList o).dst = o.dst := rfl
            rcases guardD_cases ht hk with ⟨hw, t', ht', hk⟩ | ⟨hw, t', ht', hk⟩
            · obtain ⟨s, hs, hk⟩ := someK_iff hk
              obtain ⟨s', hk, hsure, hso⟩ := sureK_ok hk
              obtain ⟨v, hv0, hv2⟩ := loadS_sound hT H hs (ev_ok ht x)
              have hv1 := hso _ _ _ hv0
              rw [hdst, putDK_eq] at hk
              refine take_first ho hsel' hQ ps'.depth listed (pendOf P PL) a w (I := fun w' => (Instr.loadAt ty (a.eval x)).run P w' = .ok v w') (v := v) hcl hfree' hmem
                (Or.inl ⟨hw, fun w' hw' => by obtain ⟨d0, op0, ty0, p0, af0, g0⟩ := o; simp only at hop; subst hop; simp [execOp, hw']⟩) hv2 (fun k => hLR.pend k) ?_
              refine wpAnyS_weaken _ (fun k w' hpk => ?_) (ih _ (i :: taken) ps' ((i, ty, evS t x, s') :: L) ((i, ty, a.eval x, v) :: PL) _ h ν _ w K hps (closed_set hcl hmem) ?_ ?_ H (putD_ok o.dst ht' hv1) (by rw [put_defers]; exact hd) hk hq)
              · exact ⟨fun hki => hpk (i, ty, a.eval x, v) (by simp) hki.symm, fun p hp hk => hpk p (by simp [hp]) hk⟩
              · intro y hy
                rcases List.mem_cons.1 hy with rfl | hy
                · simp
                · simp [hLt y hy]
              · simp only [LRel]
                exact ⟨_, _, _, rfl, ev_ok ht x, hv1, hsure, hv2, hLR⟩
            · rw [hdst, putDK_eq] at hk
              refine take_first ho hsel' hQ ps'.depth listed (pendOf P PL) a w (I := fun _ => True) (v := undef) hcl hfree' hmem (Or.inr ⟨hw, rfl⟩) trivial (fun k => hLR.pend k) ?_
              exact wpAnyS_weaken _ (fun k w' hpk => ⟨fun _ => trivial, hpk⟩) (ih _ (i :: taken) ps' L PL _ h ν _ w K hps (closed_set hcl hmem) (fun y hy => by simp [hLt y hy]) hLR H (putD_ok o.dst ht' (by simp only [S.ok])) (by rw [put_defers]; exact hd) hk hq)
          | _ => rw [hop] at hload; simp [isLoad] at hload
        · -- a pure one
          have hnl : isLoad o.op = false := by
            cases hop : o.op with
            | load ty x => rw [hop] at hpure; simp [isPure] at hpure
            | _ => rfl
          rw [hnl] at hps
          simp only [Bool.false_eq_true, if_false] at hps
          have hlo : stepT ops.toList i o ps' = .take i (coP ops.toList o) ps' := by
            unfold stepT
            cases hop : o.op with
            | load ty x => rw [hop] at hnl; simp [isLoad] at hnl
            | _ => rfl
          rw [hlo] at hk ⊢
          simp only [execT_take] at hk
          have hk' : runG (std W) tt callK (coP ops.toList o) t h (fun t' h' _ => execT (std W) tt callK ps' t' h' L K) := hk
          obtain ⟨v, s, t', h2, hy, hk2, hl2, H2, ht'⟩ := runG_pure hT hpure H ht hk'
          refine take_first ho hsel' hQ ps'.depth listed (pendOf P PL) a w (I := fun _ => True) (v := v) hcl hfree' hmem hy trivial (fun k => hLR.pend k) ?_
          exact wpAnyS_weaken _ (fun k w' hpk => ⟨fun _ => trivial, hpk⟩) (ih _ taken ps' L PL t' h2 ν _ w K hps (closed_set hcl hmem) hLt (by rw [hl2]; exact hLR) H2 (by rw [hl2]; exact ht') (by rw [put_defers]; exact hd) hk2 (by rw [hl2]; exact hq))
      · -- each that is ready
        split at hp
        case isFalse => cases hp
        have hall := forks_exec hp hk
        have hsucc : ∃ d, ps.depth = d + 1 := by
          obtain ⟨p0, hp0, _, hd0⟩ := hall r (by simp)
          split at hp0
          case h_2 => cases hp0
          split at hp0
          case h_2 => cases hp0
          simp only [Option.some.injEq] at hp0
          subst hp0
          exact ⟨_, hd0.symm⟩
        obtain ⟨d, hds⟩ := hsucc
        rw [hds]
        refine ⟨fun h0 => (by rw [hr] at h0; cases h0), fun j hj => ?_⟩
        obtain ⟨pj, hpj, hk, hdj⟩ := hall j (by rw [← hr]; exact hj)
        split at hpj
        case h_2 => cases hpj
        rename_i o ho
        split at hpj
        case h_2 => cases hpj
        rename_i ps' hps
        simp only [Option.some.injEq] at hpj
        subst hpj
        have hdd : d = ps'.depth := by
          have : ps'.depth + 1 = d + 1 := hdj.trans hds
          omega
        subst hdd
        simp only [execT_one, filtK_eq] at hk
        have fin : ∀ (t' : List S) (h' : List Ob) (ν' : Nat → Env) (s : S) (a' : Act) (w' : World), GPost W w0 S0 ν h.length (fun t' h' _ => checkL (std W) tt (L.filter fun x => (taken.filter fun l => !(ms.getD j 0).testBit l).contains x.1) h' (execT (std W) tt callK ps' t' h' (L.filter fun x => (taken.filter fun l => !(ms.getD j 0).testBit l).contains x.1) K)) a' w' t' h' ν' s →
            (∀ k, ¬ Desc ops k j → pendOf P PL k w') ∧ wpAnyS P ops Q ps'.depth (listed.setIfInBounds j true) (fun k w => ¬ Desc ops k j → pendOf P PL k w) a' w' := by
          intro t' h' ν' s a' w' g
          obtain ⟨hc1, hc2⟩ := checkL_iff g.k
          have hLR' := hLR.step hT g.hok g.ext g.le (fun k => (taken.filter fun l => !(ms.getD j 0).testBit l).contains k) hc1
          have hkeep : ∀ p ∈ PL, ¬ Desc ops p.1 j → p ∈ PL.filter fun p => (taken.filter fun l => !(ms.getD j 0).testBit l).contains p.1 := by
            intro p hp hnd
            obtain ⟨x, hx, he⟩ := hLR.idx p hp
            have h1 := hLt x hx
            rw [he] at h1
            refine List.mem_filter.2 ⟨hp, ?_⟩
            simp only [List.contains_eq_mem, List.mem_filter, Bool.not_eq_true', decide_eq_true_eq]
            refine ⟨h1, ?_⟩
            cases hb : (ms.getD j 0).testBit p.1 with
            | false => rfl
            | true => exact absurd (hms j p.1 hb) hnd
          refine ⟨fun k hk p hp hpk => ?_, ?_⟩
          · subst hpk
            exact hLR'.pend p.1 p (hkeep p hp hk) rfl
          · refine wpAnyS_weaken _ (fun k w2 hpk hnd p hp hpe => ?_) (ih _ _ ps' _ _ t' h' ν' a' w' K hps (closed_set hcl hj) ?_ hLR' g.hok g.tok g.def_ hc2 fun st ν'' a'' w'' k1 k2 k3 k4 k5 k6 => hq st ν'' a'' w'' k1 (Nat.le_trans g.le k2) (fun i hi => (k3 i (Nat.lt_of_lt_of_le hi g.le)).trans (g.ext i hi)) k4 k5 k6)
            · subst hpe
              exact hpk p (hkeep p hp hnd) rfl
            · intro x hx
              have := (List.mem_filter.1 hx).2
              simpa using this
        unfold wpOp
        simp only [ho]
        rcases runG_sound hT hcall H ht hd hk with ⟨h1, h2⟩ | ⟨h1, t', g⟩
        · rw [if_pos h1]
          exact .inl (h2 _ Q fun t' h' ν' s v a' w' _ g => fin t' h' ν' s a' w' g)
        · rw [if_neg (by rw [h1]; decide)]
          exact fin t' h ν .un _ _ g
end
end Go.SX

namespace Go.SX
open Go.RowKit
section
variable {W : Addr → Nat → Nat → Option (List S)}
variable {P : Program} {tt : Nat → Option TI}
variable {callK : FuncId → List S → List Ob → (S → List Ob → Prop) → Prop} {loopK : Nat → Cd → St → (X → St → Prop) → Prop}
theorem Fin.trans {w0 : World} {S0 : List Nat} {ν ν' : Nat → Env} {n n' : Nat} {K : X → St → Prop} {e : Exit} {a : Act} {w : World} (hn : n ≤ n') (he : ∀ i, i < n → ν' i = ν i) (h : Fin W w0 S0 ν' n' K e a w) : Fin W w0 S0 ν n K e a w := by
  obtain ⟨x, st, ν'', h1, h2, h3, h4, h5⟩ := h
  exact ⟨x, st, ν'', h1, h2, Nat.le_trans hn h3, fun i hi => (h4 i (Nat.lt_of_lt_of_le hi hn)).trans (he i hi), h5⟩
theorem Fin.mono {w0 : World} {S0 : List Nat} {ν : Nat → Env} {n : Nat} {K K' : X → St → Prop} {e : Exit} {a : Act} {w : World} (hk : ∀ x st, K x st → K' x st) (h : Fin W w0 S0 ν n K e a w) : Fin W w0 S0 ν n K' e a w := by
  obtain ⟨x, st, ν'', h1, h2, h3⟩ := h
  exact ⟨x, st, ν'', h1, hk _ _ h2, h3⟩
theorem Fin.not_panic {w0 : World} {S0 : List Nat} {ν : Nat → Env} {n : Nat} {K : X → St → Prop} {c : List PanicEntry} {a : Act} {w : World} : ¬ Fin W w0 S0 ν n K (.panic c) a w := by
  rintro ⟨x, st, ν', h1, _⟩
  cases x <;> exact h1
theorem CodeSem.mono {n0 : Nat} {c : Code} {st : St} {K K' : X → St → Prop} (h : CodeSem W P n0 c st K) (hk : ∀ x st, K x st → K' x st) : CodeSem W P n0 c st K' :=
  fun hn w w0 S0 ν a H ht hd => wp_mono (h hn w w0 S0 ν a H ht hd) fun _ _ _ hf => hf.mono hk
theorem closed_none (ops : Array Oper) (n : Nat) : Closed ops (Array.replicate n false) := by
  intro j hj
  rcases Nat.lt_or_ge j n with h | h
  · simp [h] at hj
  · have h0 : (Array.replicate n false)[j]? = none := Array.getElem?_eq_none (by simpa using h)
    simp [h0] at hj
def LoopWp (P : Program) (c : Code) (Q : Exit → Act → World → Prop) (a : Act) (w : World) : Prop :=
  ∀ (b : Frame) (k : List Item) (cs : List Frame), ∃ e a' w', Q e a' w' ∧ Arrives P (lone (b.at a (.inLoop c :: k)) cs w) b k cs e a' w'
theorem loop_arrives {c : Code} {Q : Exit → Act → World → Prop} {a : Act} {w : World} (h : c.wp P (Exit.then (LoopWp P c Q) Q) a w) (b : Frame) (k : List Item) (cs : List Frame) :
    ∃ e a' w', Q e a' w' ∧ Arrives P (lone (b.at a (.code c :: .inLoop c :: k)) cs w) b k cs e a' w' := by
  obtain ⟨e, a₁, w₁, hq, harr⟩ := h b (.inLoop c :: k) cs
  cases e with
  | normal =>
    obtain ⟨e₂, a₂, w₂, hq₂, harr₂⟩ := hq b k cs
    exact ⟨e₂, a₂, w₂, hq₂, .of_steps harr harr₂⟩
  | exit id => exact ⟨_, a₁, w₁, hq, .pass (x := .inLoop c) rfl (fun _ _ => .inl (by simp)) harr⟩
  | goto l => exact ⟨_, a₁, w₁, hq, .pass (x := .inLoop c) rfl (fun _ _ => .inl (by simp)) harr⟩
  | ret => exact ⟨_, a₁, w₁, hq, .pass (x := .inLoop c) rfl (fun _ _ => .inl (by simp)) harr⟩
  | panic ch => exact ⟨_, a₁, w₁, hq, .pass (x := .inLoop c) rfl (fun _ _ => .inl (by simp)) harr⟩
  | outgrown => exact ⟨_, a₁, w₁, hq, .pass (x := .inLoop c) rfl (fun _ _ => .inl (by simp)) harr⟩
theorem loopWp_of {c : Code} {Q : Exit → Act → World → Prop} {a : Act} {w : World} (h : c.wp P (Exit.then (LoopWp P c Q) Q) a w) : LoopWp P c Q a w := fun b k cs => by
  obtain ⟨e, a', w', hq, harr⟩ := loop_arrives h b k cs
  exact ⟨e, a', w', hq, .of_steps (.one step_inLoop) harr⟩
theorem wp_loop_of {c : Code} {Q : Exit → Act → World → Prop} {a : Act} {w : World} (h : c.wp P (Exit.then (LoopWp P c Q) Q) a w) : (Code.loop c).wp P Q a w := fun b k cs => by
  obtain ⟨e, a', w', hq, harr⟩ := loop_arrives h b k cs
  exact ⟨e, a', w', hq, .of_steps (.one step_loop) harr⟩
theorem LoopWp.mono {c : Code} {Q Q' : Exit → Act → World → Prop} {a : Act} {w : World} (h : LoopWp P c Q a w) (hq : ∀ e a w, Q e a w → Q' e a w) : LoopWp P c Q' a w := fun b k cs =>
  let ⟨e, a', w', q, r⟩ := h b k cs; ⟨e, a', w', hq _ _ _ q, r⟩
def LoopSem (W : Addr → Nat → Nat → Option (List S)) (P : Program) (n0 : Nat) (d : Cd) (st : St) (K : X → St → Prop) : Prop :=
  n0 ≤ st.h.length → ∀ (c : Code), comp c = d → ∀ (w w0 : World) (S0 : List Nat) (ν : Nat → Env) (a : Act), HOk W w0 S0 ν st.h w → oks st.h.length ν st.t a.tmps.toList → a.defers = [] →
    c.wp P (Exit.then (LoopWp P c (Fin W w0 S0 ν n0 K)) (Fin W w0 S0 ν n0 K)) a w
theorem exec_sound (hT : TOk P tt) (hm : P.follows .mixedOrders = true) (hcall : ∀ f args h K, callK f args h K → CallSem W P f args h K) (hloop : ∀ n0 d st K, loopK n0 d st K → LoopSem W P n0 d st K) (n0 : Nat) :
    ∀ (c : Code) (st : St) (K : X → St → Prop), exec (std W) tt callK loopK n0 (comp c) st K → CodeSem W P n0 c st K := by
  intro c
  induction c with
  | skip => exact fun st K hk hn w w0 S0 ν a H ht hd => wp_skip ⟨.normal, st, ν, trivial, hk, hn, fun _ _ => rfl, H, ht, hd⟩
  | label l => exact fun st K hk hn w w0 S0 ν a H ht hd => wp_label ⟨.normal, st, ν, trivial, hk, hn, fun _ _ => rfl, H, ht, hd⟩
  | exit id => exact fun st K hk hn w w0 S0 ν a H ht hd => wp_exit ⟨.exit id, st, ν, rfl, hk, hn, fun _ _ => rfl, H, ht, hd⟩
  | goto l => exact fun st K hk hn w w0 S0 ν a H ht hd => wp_goto ⟨.goto l, st, ν, rfl, hk, hn, fun _ _ => rfl, H, ht, hd⟩
  | ret => exact fun st K hk hn w w0 S0 ν a H ht hd => wp_ret ⟨.ret, st, ν, trivial, hk, hn, fun _ _ => rfl, H, ht, hd⟩
  | rangeFunc f ps x y _ _ => exact fun st K hk => hk.elim
  | refuse s => exact fun st K hk => hk.elim
  | region id ops draw =>
    intro st K hk hn w w0 S0 ν a H ht hd
    cases draw with
    | false =>
      simp only [comp, exec_reg] at hk
      refine wp_region_list (execOps_sound hT hcall ops.toList H ht hd hk fun st' ν' a' w' k1 k2 k3 k4 k5 k6 => ⟨.normal, st', ν', trivial, k1, Nat.le_trans hn k2, fun i hi => k3 i (Nat.lt_of_lt_of_le hi hn), k4, k5, k6⟩)
    | true =>
      simp only [comp] at hk
      split at hk
      · rename_i ps hps
        simp only [exec_draw] at hk
        unfold plan at hps
        split at hps
        case h_2 => cases hps
        rename_i hsel
        split at hps
        case h_2 => cases hps
        rename_i ps' hgo
        split at hps
        case isFalse => cases hps
        rename_i hlen
        simp only [Option.some.injEq] at hps
        subst hps
        refine wp_region_any hm ?_
        have hms := masks_desc (ops := ops) ops.toList [] (by simp) (by simp)
        have key := execD_sound hT hcall (Q := Fin W w0 S0 ν n0 K) (fun c a w => Fin.not_panic) hsel hms (ops.size + 1) (Array.replicate ops.size false) [] ps' [] [] st.t st.h ν a w.drew _ hgo (closed_none _ _) (by simp) (by simp [LRel]) H.drew ht hd hk
          fun st' ν' a' w' k1 k2 k3 k4 k5 k6 => ⟨.normal, st', ν', trivial, k1, Nat.le_trans hn k2, fun i hi => k3 i (Nat.lt_of_lt_of_le hi hn), k4, k5, k6⟩
        rw [hlen] at key
        exact wpAnyS_any _ key
      · split at hk
        case h_2 => exact hk.elim
        rename_i p hp
        simp only [exec_drawF] at hk
        unfold planF at hp
        split at hp
        case h_2 => cases hp
        rename_i hsel
        split at hp
        case h_2 => cases hp
        rename_i p' hgo
        split at hp
        case isFalse => cases hp
        rename_i hlen
        simp only [Option.some.injEq] at hp
        subst hp
        refine wp_region_any hm ?_
        have hms := masks_desc (ops := ops) ops.toList [] (by simp) (by simp)
        have key := execT_sound hT hcall (Q := Fin W w0 S0 ν n0 K) (fun c a w => Fin.not_panic) hsel hms (ops.size + 1) (Array.replicate ops.size false) [] p' [] [] st.t st.h ν a w.drew _ hgo (closed_none _ _) (by simp) (by simp [LRel]) H.drew ht hd hk
          fun st' ν' a' w' k1 k2 k3 k4 k5 k6 => ⟨.normal, st', ν', trivial, k1, Nat.le_trans hn k2, fun i hi => k3 i (Nat.lt_of_lt_of_le hi hn), k4, k5, k6⟩
        rw [hlen] at key
        exact wpAnyS_any _ key
  | seq a b iha ihb =>
    intro st K hk hn w w0 S0 ν ac H ht hd
    simp only [comp, exec_seq] at hk
    refine wp_seq (wp_mono (iha st _ hk hn w w0 S0 ν ac H ht hd) fun e a' w' hf => ?_)
    obtain ⟨x, st', ν', h1, h2, h3, h4, h5, h6, h7⟩ := hf
    cases x with
    | normal =>
      cases e with
      | normal => exact wp_mono (ihb st' K h2 h3 w' w0 S0 ν' a' h5 h6 h7) fun e a w hf => hf.trans (Nat.le_refl _) h4
      | _ => exact h1.elim
    | exit i => cases e <;> first | exact h1.elim | exact ⟨.exit i, st', ν', h1, h2, h3, h4, h5, h6, h7⟩
    | goto l => cases e <;> first | exact h1.elim | exact ⟨.goto l, st', ν', h1, h2, h3, h4, h5, h6, h7⟩
    | ret => cases e <;> first | exact h1.elim | exact ⟨.ret, st', ν', h1, h2, h3, h4, h5, h6, h7⟩
  | cond c a b iha ihb =>
    intro st K hk hn w w0 S0 ν ac H ht hd
    simp only [comp, exec_cond] at hk
    have hv := ev_ok ht c
    split at hk
    · rename_i he; rw [he] at hv; simp only [S.ok] at hv
      exact wp_cond_true hv (iha st K hk hn w w0 S0 ν ac H ht hd)
    · rename_i he; rw [he] at hv; simp only [S.ok] at hv
      exact wp_cond_false hv (ihb st K hk hn w w0 S0 ν ac H ht hd)
    · rename_i x he; rw [he] at hv; simp only [S.ok] at hv
      split at hk
      · rename_i hx; subst hx
        exact wp_cond_true hv (iha st K hk hn w w0 S0 ν ac H ht hd)
      · rename_i hx
        have hx : x = false := by simpa using hx
        subst hx
        exact wp_cond_false hv (ihb st K hk hn w w0 S0 ν ac H ht hd)
    · exact hk.elim
  | block id a iha =>
    intro st K hk hn w w0 S0 ν ac H ht hd
    simp only [comp, exec_block] at hk
    refine wp_block (wp_mono (iha st _ hk hn w w0 S0 ν ac H ht hd) fun e a' w' hf => ?_)
    obtain ⟨x, st', ν', h1, h2, h3, h4, h5, h6, h7⟩ := hf
    cases x with
    | normal => cases e <;> first | exact h1.elim | exact ⟨.normal, st', ν', trivial, h2, h3, h4, h5, h6, h7⟩
    | exit i =>
      cases e with
      | exit j =>
        have hij : i = j := h1
        subst hij
        simp only [Exit.inBlock]
        simp only at h2
        split
        · rename_i hi; rw [if_pos hi] at h2; exact ⟨.normal, st', ν', trivial, h2, h3, h4, h5, h6, h7⟩
        · rename_i hi; rw [if_neg hi] at h2; exact ⟨.exit i, st', ν', rfl, h2, h3, h4, h5, h6, h7⟩
      | _ => exact h1.elim
    | goto l => cases e <;> first | exact h1.elim | exact ⟨.goto l, st', ν', h1, h2, h3, h4, h5, h6, h7⟩
    | ret => cases e <;> first | exact h1.elim | exact ⟨.ret, st', ν', h1, h2, h3, h4, h5, h6, h7⟩
  | loop a iha => exact fun st K hk hn w w0 S0 ν ac H ht hd => wp_loop_of (hloop _ _ _ _ hk hn a rfl w w0 S0 ν ac H ht hd)
  | scope a iha =>
    intro st K hk hn w w0 S0 ν ac H ht hd
    simp only [comp, exec_scope] at hk
    refine wp_scope_straight (wp_mono (iha st _ hk hn w w0 S0 ν ac H ht hd) fun e a' w' hf => ?_)
    obtain ⟨x, st', ν', h1, h2, h3, h4, h5, h6, h7⟩ := hf
    cases x with
    | normal => cases e <;> first | exact h1.elim | exact ⟨.normal, st', ν', trivial, h2, h3, h4, h5, h6, h7⟩
    | exit i => cases e <;> first | exact h1.elim | exact ⟨.exit i, st', ν', h1, h2, h3, h4, h5, h6, h7⟩
    | goto l => exact h2.elim
    | ret => cases e <;> first | exact h1.elim | exact ⟨.ret, st', ν', h1, h2, h3, h4, h5, h6, h7⟩
end
end Go.SX

namespace Go.SX
open Go.RowKit
section
variable {W : Addr → Nat → Nat → Option (List S)}
variable {P : Program} {tt : Nat → Option TI} {w0 w : World} {S0 : List Nat} {ν : Nat → Env}
def resV (tmps : Array Value) : ResultVar → Sem Value
  | .tmp t => pure (tmps.getD t undef)
  | .cell a t => do loadVar t (← asAddr (tmps.getD a undef))
theorem resS_ok (hT : TOk P tt) {st : St} {a : Act} (H : HOk W w0 S0 ν st.h w) (ht : oks st.h.length ν st.t a.tmps.toList) : ∀ (rs : List ResultVar) {ss : List S}, resS (std W) tt rs st = some ss →
    ∃ vs, oks st.h.length ν ss vs ∧ (rs.mapM (resV a.tmps)).run P w = .ok vs w
  | [], ss, h => by
    simp only [resS, Option.some.injEq] at h
    subst h
    exact ⟨[], oks_nil, by simp⟩
  | r :: rs, ss, h => by
    simp only [resS] at h
    split at h
    case h_2 => cases h
    rename_i s ss' h1 h2
    simp only [Option.some.injEq] at h
    subst h
    obtain ⟨vs, h3, h4⟩ := resS_ok hT H ht rs h2
    have key : ∃ v, s.ok st.h.length ν v ∧ (resV a.tmps r).run P w = .ok v w := by
      clear h2
      cases r with
      | tmp t =>
        simp only [Option.some.injEq] at h1
        subst h1
        have := getT_ok t ht
        exact ⟨_, this, by simp [resV]⟩
      | cell x t =>
        simp only at h1
        have hx := getT_ok x ht
        obtain ⟨u, h5, h6⟩ := loadS_sound hT H h1 hx
        refine ⟨u, h5, ?_⟩
        generalize hg : getT st.t x = g at h1 hx
        cases g with
        | ptr id off =>
          simp only [S.ok] at hx
          obtain ⟨_, hv⟩ := hx
          have hv' : a.tmps.getD x undef = .pointer (some ⟨(ν id).blk, (ν id).base + off.val, none⟩) := by
            rw [← hv]; simp
          rw [hv] at h6
          simp only [Instr.loadAt, Instr.sureAddr, Sem.run_bind, Sem.run_pure, Result.andThen_ok] at h6
          simp only [resV, hv', asAddr, Sem.run_bind, Sem.run_pure, Result.andThen_ok]
          exact h6
        | pel id i sz off =>
          simp only [S.ok] at hx
          obtain ⟨_, _, hv⟩ := hx
          have hv' : a.tmps.getD x undef = .pointer (some ⟨(ν id).blk, (ν id).base + (i * sz + off), none⟩) := by
            rw [← hv]; simp
          rw [hv] at h6
          simp only [Instr.loadAt, Instr.sureAddr, Sem.run_bind, Sem.run_pure, Result.andThen_ok] at h6
          simp only [resV, hv', asAddr, Sem.run_bind, Sem.run_pure, Result.andThen_ok]
          exact h6
        | rp b off =>
          simp only [S.ok] at hx
          have hv' : a.tmps.getD x undef = .pointer (some ⟨b.block, b.off + off.val, none⟩) := by
            rw [← hx]; simp
          rw [hx] at h6
          simp only [Instr.loadAt, Instr.sureAddr, Sem.run_bind, Sem.run_pure, Result.andThen_ok] at h6
          simp only [resV, hv', asAddr, Sem.run_bind, Sem.run_pure, Result.andThen_ok]
          exact h6
        | _ => simp [loadS] at h1
    obtain ⟨v, h5, h6⟩ := key
    exact ⟨v :: vs, oks_cons h5 h3, by simp only [List.mapM_cons, Sem.run_bind, h6, Result.andThen_ok, h4, Sem.run_pure]⟩
theorem retS_ok (hT : TOk P tt) {fn : Func} {st : St} {a : Act} {K : S → List Ob → Prop} (H : HOk W w0 S0 ν st.h w) (ht : oks st.h.length ν st.t a.tmps.toList) (hr : retS (std W) tt fn.results.toList st K) :
    ∃ v s, (results fn a.tmps).run P w = .ok v w ∧ K s st.h ∧ s.ok st.h.length ν v := by
  unfold retS at hr
  have main : ∀ ss, resS (std W) tt fn.results.toList st = some ss → ∃ vs, oks st.h.length ν ss vs ∧ (results fn a.tmps).run P w = .ok (if h : vs.toArray.size = 1 then vs.toArray[0] else .tuple vs.toArray) w := by
    intro ss hs
    obtain ⟨vs, h1, h2⟩ := resS_ok hT H ht _ hs
    refine ⟨vs, h1, ?_⟩
    have hrs : results fn a.tmps = (do let vs ← fn.results.mapM (resV a.tmps); pure (if h : vs.size = 1 then vs[0] else .tuple vs)) := by
      unfold results
      congr 1
    rw [hrs, Array.mapM_eq_mapM_toList]
    simp only [bind_map_left, Sem.run_bind, h2, Result.andThen_ok, Sem.run_pure]
  split at hr
  · rename_i s hs
    obtain ⟨vs, h1, h2⟩ := main _ hs
    simp only [S.oks] at h1
    obtain ⟨v, _, rfl, h3, rfl⟩ := h1
    exact ⟨v, s, by rw [h2]; simp, hr, h3⟩
  · rename_i ss hns hs
    obtain ⟨vs, h1, h2⟩ := main _ hs
    have hl := oks_len h1
    have hne : ¬ vs.toArray.size = 1 := by
      intro h
      have : ss.length = 1 := by rw [← hl]; simpa using h
      obtain ⟨s, rfl⟩ := List.length_eq_one_iff.1 this
      exact hns s rfl
    refine ⟨.tuple vs.toArray, .tup ss, by rw [h2, dif_neg hne], hr, by simp only [S.ok]; exact ⟨vs, rfl, h1⟩⟩
  · exact hr.elim
def FOk (P : Program) (ff : Nat → Option FI) : Prop := ∀ f fi, ff f = some fi → ∃ fn c, P.funcs[f]? = some fn ∧ fn.body = some c ∧ comp c = fi.body ∧ fn.ntmps = fi.ntmps ∧ fn.results.toList = fi.res ∧ ∀ (as : Array Value) (w : World), (callFunc f as).run P w = .ok (.enter f as) w
theorem oks_un {m : Nat} : ∀ n, oks m ν (List.replicate n .un) (List.replicate n undef)
  | 0 => oks_nil
  | n + 1 => oks_cons (by simp only [S.ok]) (oks_un n)
theorem call_in (hT : TOk P tt) (hm : P.follows .mixedOrders = true) {ff : Nat → Option FI} (hF : FOk P ff) {callK : FuncId → List S → List Ob → (S → List Ob → Prop) → Prop} {loopK : Nat → Cd → St → (X → St → Prop) → Prop}
    (hcall : ∀ f args h K, callK f args h K → CallSem W P f args h K) (hloop : ∀ n0 d st K, loopK n0 d st K → LoopSem W P n0 d st K) {f : FuncId} {fi : FI} (hfi : ff f = some fi) {args : List S} {h : List Ob} {K : S → List Ob → Prop}
    (hk : exec (std W) tt callK loopK h.length fi.body ⟨args ++ List.replicate (fi.ntmps - args.length) .un, h⟩ fun x st => (match x with
      | .normal => retS (std W) tt fi.res st K
      | .ret => retS (std W) tt fi.res st K
      | _ => False)) : CallSem W P f args h K := by
  obtain ⟨fn, c, h1, h2, h3, h4, h5, h6⟩ := hF f fi hfi
  intro w w0 S0 ν vs H ho
  refine Or.inl ⟨h6 _ w, ?_⟩
  rw [← h3] at hk
  have hsem := exec_sound hT hm hcall hloop h.length c _ _ hk
  have hl := oks_len ho
  refine calls_of_wp h1 h2 (wp_mono (hsem (Nat.le_refl _) w w0 S0 ν _ H ?_ rfl) fun e a w' hf => ?_)
  · simp only [Array.toList_append, Array.toList_replicate, List.size_toArray, h4, hl]
    exact oks_append ho (oks_un _)
  · obtain ⟨x, st, ν', g1, g2, g3, g4, g5, g6, g7⟩ := hf
    have fin : retS (std W) tt fi.res st K → bodyPost P fn (fun e w' => ∃ v, e = .returned v ∧ Post W w0 S0 ν h.length K v w') .ret a w' := by
      intro hr
      rw [← h5] at hr
      obtain ⟨v, s, q1, q2, q3⟩ := retS_ok hT g5 g6 hr
      exact ⟨g7, v, q1, v, rfl, s, st.h, ν', q2, g3, g4, g5, q3⟩
    cases x with
    | normal => cases e <;> first | exact g1.elim | exact fin g2
    | ret => cases e <;> first | exact g1.elim | exact fin g2
    | exit i => exact g2.elim
    | goto l => exact g2.elim
theorem callN_sound (hT : TOk P tt) (hm : P.follows .mixedOrders = true) {ff : Nat → Option FI} (hF : FOk P ff) {stop : FuncId → List S → List Ob → (S → List Ob → Prop) → Prop} {loopK : Nat → Cd → St → (X → St → Prop) → Prop}
    (hstop : ∀ f args h K, stop f args h K → CallSem W P f args h K) (hloop : ∀ n0 d st K, loopK n0 d st K → LoopSem W P n0 d st K) :
    ∀ n f args h K, callN (std W) tt ff stop loopK n f args h K → CallSem W P f args h K := by
  intro n
  induction n with
  | zero => exact fun f args h K hk => hstop _ _ _ _ hk
  | succ n ih =>
    intro f args h K hk
    simp only [callN] at hk
    split at hk
    case h_2 => exact hstop _ _ _ _ hk
    rename_i fi hfi
    simp only [normL_eq, retK_eq] at hk
    exact call_in hT hm hF ih hloop hfi hk

theorem loop_round (hT : TOk P tt) (hm : P.follows .mixedOrders = true) {callK : FuncId → List S → List Ob → (S → List Ob → Prop) → Prop} {loopK : Nat → Cd → St → (X → St → Prop) → Prop}
    (hcall : ∀ f args h K, callK f args h K → CallSem W P f args h K) (hloop : ∀ n0 d st K, loopK n0 d st K → LoopSem W P n0 d st K) {n0 : Nat} {d : Cd} {st : St} {K : X → St → Prop}
    (h : exec (std W) tt callK loopK n0 d st fun x st' => (match x with
      | .normal => loopK n0 d st' K
      | x => K x st')) : LoopSem W P n0 d st K := by
  intro hn c hc w w0 S0 ν a H ht hd
  rw [← hc] at h
  have hsem := exec_sound hT hm hcall hloop n0 c st _ h hn w w0 S0 ν a H ht hd
  refine wp_mono hsem fun e a' w' hf => ?_
  obtain ⟨x, st', ν', g1, g2, g3, g4, g5, g6, g7⟩ := hf
  cases x with
  | normal =>
    cases e with
    | normal =>
      rw [hc] at g2
      exact loopWp_of (wp_mono (hloop _ _ _ _ g2 g3 c hc w' w0 S0 ν' a' g5 g6 g7) fun e a w hq => by
        cases e with
        | normal => exact hq.mono fun e a w hf => hf.trans (Nat.le_refl _) g4
        | _ => exact Fin.trans (Nat.le_refl _) g4 hq)
    | _ => exact g1.elim
  | exit i => cases e <;> first | exact g1.elim | exact ⟨.exit i, st', ν', g1, g2, g3, g4, g5, g6, g7⟩
  | goto l => cases e <;> first | exact g1.elim | exact ⟨.goto l, st', ν', g1, g2, g3, g4, g5, g6, g7⟩
  | ret => cases e <;> first | exact g1.elim | exact ⟨.ret, st', ν', g1, g2, g3, g4, g5, g6, g7⟩
theorem runN_sound (hT : TOk P tt) (hm : P.follows .mixedOrders = true) {ff : Nat → Option FI} (hF : FOk P ff) {stop : FuncId → List S → List Ob → (S → List Ob → Prop) → Prop} (hstop : ∀ f args h K, stop f args h K → CallSem W P f args h K) :
    ∀ n, (∀ f args h K, (runN (std W) tt ff stop n).1 f args h K → CallSem W P f args h K) ∧ (∀ n0 d st K, (runN (std W) tt ff stop n).2 n0 d st K → LoopSem W P n0 d st K) := by
  intro n
  induction n with
  | zero => exact ⟨fun f args h K hk => hk.elim, fun n0 d st K hk => hk.elim⟩
  | succ n ih =>
    refine ⟨fun f args h K hk => ?_, fun n0 d st K hk => ?_⟩
    · simp only [runN] at hk
      split at hk
      case h_2 => exact hstop _ _ _ _ hk
      rename_i fi hfi
      simp only [normL_eq, retK_eq] at hk
      exact call_in hT hm hF ih.1 ih.2 hfi hk
    · exact loop_round hT hm ih.1 ih.2 hk
end
end Go.SX

namespace Go.SX
open Go.RowKit
def zeroB : S → Value → Bool
  | .il k n, .int k' n' => decide (k = k') && n == n'
  | .bl b, .bool b' => b == b'
  | .nil, .pointer a => a.isNone
  | .tl [], .string s => s.data.size == 0
  | .raw (.slice none 0 0), .slice none 0 0 => true
  | .raw .nilIface, .nilIface => true
  | .raw .nilFunc, .nilFunc => true
  | .raw (.map none), .map none => true
  | _, _ => false
def zerosB : List S → List Value → Bool
  | [], [] => true
  | s :: ss, v :: vs => zeroB s v && zerosB ss vs
  | _, _ => false
def descB (P : Program) (t : TypeId) : TD → TypeDesc → Bool
  | .int k, .int k' => decide (k = k')
  | .bool, .bool => true
  | .string, .string => true
  | .ptr e, .pointer e' => e == e'
  | .slice e, .slice e' => e == e'
  | .arr n e, .array n' e' => n == n' && e == e'
  | .struct fs, .struct fa => (fa.toList.map fun f => (f.offset, f.type)) == fs && (fa.toList.all fun f => f.name != "_") && !P.stoodInHeld t
  | .map k e, .map k' e' => k == k' && e == e'
  | .iface, .interface _ => true
  | .func, .func _ _ _ => true
  | _, _ => false
def metB (i : TypeInfo) (x : String × FuncId) : Bool := match i.methods.find? (·.name == x.1) with
  | some me => me.path.size == 0 && me.func == some (x.2, true)
  | none => false
def checkTI (P : Program) (t : TypeId) (ti : TI) : Bool := match P.info? t, P.underlying t with
  | some i, some d => i.size == ti.size && i.bytes == ti.bytes && ti.zero.length == ti.size && (match i.zero with
      | some z => zerosB ti.zero z.cells.toList && (match z with
        | .agg _ => ti.agg
        | _ => !ti.agg && z.cells.size == 1)
      | none => false) && descB P t ti.d d && (!ti.agg || (!ti.cmp || !P.eqGuardType P.depth t)) && (ti.ms.isEmpty || (match d with
        | .pointer _ => true
        | _ => false)) && ti.ms.all (metB i)
  | _, _ => false
theorem zeroB_ok {s : S} {v : Value} (h : zeroB s v = true) (m : Nat) (ν : Nat → Env) : s.ok m ν v := by
  unfold zeroB at h
  split at h
  · simp only [Bool.and_eq_true, decide_eq_true_eq, beq_iff_eq] at h; obtain ⟨rfl, rfl⟩ := h; simp only [S.ok]
  · simp only [beq_iff_eq] at h; subst h; simp only [S.ok]
  · rename_i a; cases a with
    | none => simp only [S.ok]
    | some a => cases h
  · rename_i s
    simp only [beq_iff_eq] at h
    simp only [S.ok]
    obtain ⟨d⟩ := s
    have : d = #[] := Array.eq_empty_of_size_eq_zero h
    rw [this]
  · simp only [S.ok]
  · simp only [S.ok]
  · simp only [S.ok]
  · simp only [S.ok]
  · cases h
theorem zerosB_ok : ∀ {ss : List S} {vs : List Value}, zerosB ss vs = true → ∀ m ν, oks m ν ss vs
  | [], [], _, m, ν => oks_nil
  | s :: ss, v :: vs, h, m, ν => by
    simp only [zerosB, Bool.and_eq_true] at h
    exact oks_cons (zeroB_ok h.1 m ν) (zerosB_ok h.2 m ν)
  | [], v :: vs, h, _, _ => by cases h
  | s :: ss, [], h, _, _ => by cases h
theorem tiOk_of {P : Program} {t : TypeId} {ti : TI} (h : checkTI P t ti = true) : TIOk P t ti := by
  unfold checkTI at h
  split at h
  case h_2 => cases h
  rename_i i d hi hd
  simp only [Bool.and_eq_true, beq_iff_eq, Bool.or_eq_true, Bool.not_eq_true'] at h
  obtain ⟨⟨⟨⟨⟨⟨⟨h1, h2⟩, h3⟩, h4⟩, h5⟩, h6⟩, h7⟩, h8⟩ := h
  refine ⟨h3, ?_, ?_, ?_, ?_⟩
  · cases hz : i.zero with
    | none => rw [hz] at h4; cases h4
    | some z =>
      rw [hz] at h4
      simp only [Bool.and_eq_true] at h4
      refine ⟨i, z, z.cells.toList, hi, h1, h2, hz, by simp, zerosB_ok h4.1, ?_⟩
      have h9 := h4.2
      cases z <;> simp only [Bool.and_eq_true, Bool.not_eq_true', beq_iff_eq] at h9
      case agg cs => rw [h9]; simp [Value.cells]
      all_goals
        rw [h9.1]
        simp [Value.cells] at h9 ⊢
  · cases hti : ti.d <;> rw [hti] at h5 <;> cases d <;> simp only [descB, Bool.false_eq_true, decide_eq_true_eq, beq_iff_eq, Bool.and_eq_true] at h5 <;> simp only
    case int.int => rw [h5]; exact hd
    case bool.bool => exact hd
    case string.string => exact hd
    case ptr.pointer => rw [h5]; exact hd
    case slice.slice => rw [h5]; exact hd
    case arr.array => rw [h5.1, h5.2]; exact hd
    case struct.struct fs fa =>
      obtain ⟨⟨g1, g2⟩, g3⟩ := h5
      refine ⟨fa, hd, g1, fun f hf => ?_, by simpa using g3⟩
      have := List.all_eq_true.1 g2 f hf
      simpa using this
    case map.map => rw [h5.1, h5.2]; exact hd
    case iface.interface ms => exact ⟨ms, hd⟩
    case func.func a b c => exact ⟨a, b, c, hd⟩
  · intro hag
    rcases h6 with h6 | h6
    · rw [hag] at h6; cases h6
    · intro hc
      rcases h6 with h6 | h6
      · rw [hc] at h6; cases h6
      · exact h6
  · intro n f hf
    have hmem := List.mem_of_find?_eq_some hf
    have hm := List.all_eq_true.1 h8 _ hmem
    have hp : ∃ e, d = .pointer e := by
      rcases h7 with h7 | h7
      · rw [List.isEmpty_iff] at h7; rw [h7] at hmem; cases hmem
      · split at h7
        · exact ⟨_, rfl⟩
        · cases h7
    obtain ⟨e, rfl⟩ := hp
    unfold metB at hm
    split at hm
    case h_2 => cases hm
    rename_i me hme
    simp only [Bool.and_eq_true, beq_iff_eq] at hm
    exact ⟨e, i, hd, hi, me, hme, Array.eq_empty_of_size_eq_zero hm.1, hm.2⟩
theorem ite_some {α : Type} {c : Prop} [Decidable c] {A B : Option α} {x : α} {R : Prop} (h : (if c then A else B) = some x) (ha : A = some x → R) (hb : B = some x → R) : R := by
  split at h
  · exact ha h
  · exact hb h
theorem ite_leaf {α : Type} {n k : Nat} {v x : α} {R : Nat → α → Prop} (h : (if n = k then some v else none) = some x) (hr : R k v) : R n x := by
  split at h
  · rename_i hn; subst hn; cases h; exact hr
  · cases h
theorem cond_some {α : Type} {c : Bool} {A B : Option α} {x : α} {R : Prop} (h : cond c A B = some x) (ha : A = some x → R) (hb : B = some x → R) : R := by
  cases c
  · exact hb h
  · exact ha h
theorem cond_leaf {α : Type} {n k : Nat} {v x : α} {R : Nat → α → Prop} (h : cond (Nat.beq n k) (some v) none = some x) (hr : R k v) : R n x := by
  cases hc : Nat.beq n k with
  | true => rw [hc] at h; have := Nat.eq_of_beq_eq_true hc; subst this; cases h; exact hr
  | false => rw [hc] at h; cases h
def FIOk (P : Program) (f : FuncId) (fi : FI) : Prop := ∃ fn c, P.funcs[f]? = some fn ∧ fn.body = some c ∧ comp c = fi.body ∧ fn.ntmps = fi.ntmps ∧ fn.results.toList = fi.res ∧ ∀ (as : Array Value) (w : World), (callFunc f as).run P w = .ok (.enter f as) w
theorem fiOk_of {P : Program} {f : FuncId} {fi : FI} {fn : Func} (h1 : P.funcs[f]? = some fn) (h2 : fn.body.map comp = some fi.body) (h3 : fn.ntmps = fi.ntmps) (h4 : fn.results.toList = fi.res) (h5 : ∀ (as : Array Value) (w : World), (callFunc f as).run P w = .ok (.enter f as) w) : FIOk P f fi := by
  cases hb : fn.body with
  | none => rw [hb] at h2; cases h2
  | some c =>
    rw [hb] at h2
    simp only [Option.map_some, Option.some.injEq] at h2
    exact ⟨fn, c, h1, hb, h2, h3, h4, h5⟩
end Go.SX

namespace Go.SX
open Go.RowKit
def noW : Addr → Nat → Nat → Option (List S) := fun _ _ _ => none
def isTrue (s : S) (_ : List Ob) : Prop := s = .bl true
theorem hok_empty (w : World) : HOk noW w [] (fun _ => ⟨0, 0, 0, 0⟩) [] w :=
  ⟨Upd.refl _ _, by intro i o h; simp at h, by intro i o h; simp at h, by intro i j o o' _ h; simp at h, by intro i cs h; simp at h, by intro a o n cs h; cases h⟩
theorem Upd.toBelow {a w : World} (h : Upd [] a w) : Below a.heap.size a w := ⟨h.os, h.tape, h.output, h.size, fun k hk => h.block k hk (by simp)⟩
theorem law_calls {P : Program} {f : FuncId} {args : List S} {ff : Nat → Option FI} (hF : FOk P ff) {fi : FI} (hf : ff f = some fi) (h : CallSem noW P f args [] isTrue) (vs : List Value) (hv : oks 0 (fun _ => ⟨0, 0, 0, 0⟩) args vs) (w : World) :
    Calls P f vs.toArray w fun e w' => e = .returned (.bool true) ∧ Below w.heap.size w w' := by
  rcases h w w [] _ vs (hok_empty w) hv with ⟨_, hc⟩ | ⟨v, w', h1, _⟩
  · refine hc.mono ?_
    rintro e w' ⟨v, rfl, s, h', ν', hs, _, _, hok, hv⟩
    simp only [isTrue] at hs
    subst hs
    simp only [S.ok] at hv
    subst hv
    exact ⟨rfl, hok.upd.toBelow⟩
  · obtain ⟨fn, c, _, _, _, _, _, h6⟩ := hF f fi hf
    rw [h6] at h1
    cases h1
theorem run_calls {P : Program} {tt : Nat → Option TI} (hT : TOk P tt) (hm : P.follows .mixedOrders = true) {f : FuncId} {args : List S} {ff : Nat → Option FI} (hF : FOk P ff) {stop : FuncId → List S → List Ob → (S → List Ob → Prop) → Prop} (hstop : ∀ f args h K, stop f args h K → CallSem noW P f args h K) {n : Nat} {fi : FI} (hf : ff f = some fi)
    (h : (runN (std noW) tt ff stop n).1 f args [] isTrue) (vs : List Value) (hv : oks 0 (fun _ => ⟨0, 0, 0, 0⟩) args vs) (w : World) :
    Calls P f vs.toArray w fun e w' => e = .returned (.bool true) ∧ Below w.heap.size w w' :=
  law_calls hF hf ((runN_sound hT hm hF hstop n).1 f args [] isTrue h) vs hv w
def noStop (_ : FuncId) (_ : List S) (_ : List Ob) (_ : S → List Ob → Prop) : Prop := False
theorem noStop_ok {P : Program} : ∀ f args h K, noStop f args h K → CallSem noW P f args h K := fun _ _ _ _ h => h.elim
end Go.SX
