/- SX: calls, regions, code. -/
import Derived.Test.YtbkegflipglioaaGreatSX9
import Derived.Test.YtbkegflipglioaaGreatSXM
import Derived.Scope
namespace Go.SX
open Go.RowKit
/-- What is so behind something that hands on a value. -/
def Post (W : Addr → Nat → Nat → Option (List S)) (w0 : World) (S0 : List Nat) (ν : Nat → Env) (n : Nat) (K : S → List Ob → Prop) (v : Value) (w' : World) : Prop :=
  ∃ s h' ν', K s h' ∧ n ≤ h'.length ∧ (∀ i, i < n → ν' i = ν i) ∧ HOk W w0 S0 ν' h' w' ∧ s.ok h'.length ν' v
def CallSem (W : Addr → Nat → Nat → Option (List S)) (P : Program) (f : FuncId) (args : List S) (h : List Ob) (K : S → List Ob → Prop) : Prop :=
  ∀ (w w0 : World) (S0 : List Nat) (ν : Nat → Env) (vs : List Value), HOk W w0 S0 ν h w → oks h.length ν args vs →
    ((callFunc f vs.toArray).run P w = .ok (.enter f vs.toArray) w ∧ Calls P f vs.toArray w fun e w' => ∃ v, e = .returned v ∧ Post W w0 S0 ν h.length K v w') ∨
    (∃ v w', (callFunc f vs.toArray).run P w = .ok (.value v) w' ∧ Post W w0 S0 ν h.length K v w')
def xok : X → Exit → Prop
  | .normal, .normal => True
  | .exit i, .exit j => i = j
  | .goto i, .goto j => i = j
  | .ret, .ret => True
  | _, _ => False
/-- What is so behind code. -/
def Fin (W : Addr → Nat → Nat → Option (List S)) (w0 : World) (S0 : List Nat) (ν : Nat → Env) (n : Nat) (K : X → St → Prop) (e : Exit) (a : Act) (w : World) : Prop :=
  ∃ x st ν', xok x e ∧ K x st ∧ n ≤ st.h.length ∧ (∀ i, i < n → ν' i = ν i) ∧ HOk W w0 S0 ν' st.h w ∧ oks st.h.length ν' st.t a.tmps.toList ∧ a.defers = []
/-- 'n0': the names that a function began with; they stay. -/
def CodeSem (W : Addr → Nat → Nat → Option (List S)) (P : Program) (n0 : Nat) (c : Code) (st : St) (K : X → St → Prop) : Prop :=
  n0 ≤ st.h.length → ∀ (w w0 : World) (S0 : List Nat) (ν : Nat → Env) (a : Act), HOk W w0 S0 ν st.h w → oks st.h.length ν st.t a.tmps.toList → a.defers = [] → c.wp P (Fin W w0 S0 ν n0 K) a w

section
variable {W : Addr → Nat → Nat → Option (List S)}
variable {P : Program} {tt : Nat → Option TI} {w0 w : World} {S0 : List Nat} {ν : Nat → Env} {h : List Ob}
theorem opS_sound (hT : TOk P tt) {o : Oper} {t : List S} {a : Act} {K : S → List Ob → Prop} (H : HOk W w0 S0 ν h w) (ht : oks h.length ν t a.tmps.toList) (hk : opS (std W) tt o.op (evS t) h K) :
    ∃ v w', Post W w0 S0 ν h.length K v w' ∧ ((execOp a.eval o).run P w = .ok (.value v) w' ∨ ((execOp a.eval o).run P w = .ok .skip w' ∧ v = undef)) := by
  have hev := fun x => ev_ok ht x
  cases hp : isPure o.op with
  | true =>
    obtain ⟨s, v, h1, h2, h3⟩ := pure_sound hT hp hev hk
    exact ⟨v, w, ⟨s, h, ν, h1, Nat.le_refl _, fun _ _ => rfl, H, h2⟩, Or.inl (h3 w)⟩
  | false =>
    obtain ⟨dst, op, ty, pos, after, guard⟩ := o
    cases op <;> simp only [isPure, Bool.true_eq_false] at hp <;> simp only [opS] at hk
    case alloc e =>
      split at hk
      case h_2 => exact hk.elim
      rename_i ti hti
      obtain ⟨vs, h1, h2, h3⟩ := run_alloc (hT e ti hti)
      refine ⟨_, _, ⟨_, _, _, hk, by simp, updE_lt, H.alloc e (h1 _ _), ?_⟩, Or.inl (by simp only [execOp]; simp [h3]; rfl)⟩
      simp [S.ok, updE_eq, NN.val]
    case box e x =>
      split at hk
      case h_2 => exact hk.elim
      rename_i hon
      obtain ⟨h1, _⟩ := cs_ok hon (hev x)
      have h2 := H.alloc e h1
      rw [Array.toArray_toList] at h2
      refine ⟨_, _, ⟨_, _, _, hk, by simp, updE_lt, h2, ?_⟩, Or.inl (by simp only [execOp]; simp [run_box]; rfl)⟩
      simp [S.ok, updE_eq, NN.val]
    case buildSlice t len ps =>
      split at hk
      case h_2 => exact hk.elim
      rename_i e sz cs hb
      obtain ⟨vs, h1, h2, hl, h3⟩ := buildSl_sound hT hev hb
      · refine ⟨_, _, ⟨_, _, _, hk, by simp, updE_lt, H.allocRow e sz len h1 h2 hl, ?_⟩, Or.inl (by simp only [execOp]; simp [h3]; rfl)⟩
        simp [S.ok, updE_eq, NN.val, Cap.val, hl]
    case load t x =>
      obtain ⟨s, hs, hK⟩ := someK_iff hk
      obtain ⟨u, h1, h2⟩ := loadS_sound hT H hs (hev x)
      exact ⟨u, w, ⟨s, h, ν, hK, Nat.le_refl _, fun _ _ => rfl, H, h1⟩, Or.inl (by simp [execOp, h2])⟩
    case store t x y =>
      split at hk
      case h_2 => exact hk.elim
      rename_i h' hs
      obtain ⟨w', h1, h2, h3⟩ := storeS_sound hT H hs (hev x) (hev y)
      exact ⟨undef, w', ⟨_, h', ν, hk, by omega, fun _ _ => rfl, h2, by simp only [S.ok]⟩, Or.inr ⟨by simp [execOp, h1], rfl⟩⟩
    case call c =>
      split at hk
      all_goals first
        | exact hk.elim
        | (simp_all; done)

variable {callK : FuncId → List S → List Ob → (S → List Ob → Prop) → Prop}
theorem evs_ok {m : Nat} {t : List S} {a : Act} (ht : oks m ν t a.tmps.toList) : ∀ l : List Operand, oks m ν (l.map (evS t)) (l.map a.eval)
  | [] => oks_nil
  | x :: l => oks_cons (ev_ok ht x) (evs_ok ht l)
theorem run_method {t e : TypeId} {i : TypeInfo} {me : Method} {nm : String} {f : FuncId} (hund : P.underlying t = some (.pointer e)) (hinfo : P.info? t = some i) (hme : i.methods.find? (·.name == nm) = some me) (hpath : me.path = #[]) (hfun : me.func = some (f, true)) (n : Nat) (u : Value) (w : World) :
    (method (n + 1) t u nm).run P w = .ok (f, u) w := by
  simp [method, typeInfo, hinfo, hme, hpath, hfun, follow, receiverAt, run_underlying hund, Place.get]
theorem run_invoke {t e : TypeId} {i : TypeInfo} {me : Method} {nm : String} {f : FuncId} (hund : P.underlying t = some (.pointer e)) (hinfo : P.info? t = some i) (hme : i.methods.find? (·.name == nm) = some me) (hpath : me.path = #[]) (hfun : me.func = some (f, true))
    {ρ : Operand → Value} {r : Operand} {u : Value} (hr : ρ r = .iface t u) {dst : Option Tmp} {args : Array Operand} {ats : Array TypeId} {ty : TypeId} {pos : String} {after : Array Edge} {guard : Option (Nat × Bool)} :
    (execOp ρ { dst := dst, op := .call { callee := .invoke r nm, args := args, argTypes := ats }, type := ty, pos := pos, after := after, guard := guard }).run P w = (callFunc f (#[u] ++ args.map ρ)).run P w := by
  have hex : (#[ρ r] ++ args.map ρ).extract 1 (#[ρ r] ++ args.map ρ).size = args.map ρ := by
    apply Array.toList_inj.1; simp; rw [List.take_of_length_le (by simp)]
  have h0 : (#[ρ r] ++ args.map ρ)[0]? = some (ρ r) := by rw [Array.getElem?_append_left (by simp)]; rfl
  have hd : P.types.size + Made.depth = (P.types.size + 99) + 1 := rfl
  simp only [execOp, resolve, Sem.run_bind, Sem.run_pure, Result.andThen_ok, invoke, h0, hex]
  rw [hr]
  simp only [callMethod, Sem.run_bind, run_program, Result.andThen_ok]
  rw [hd, run_method hund hinfo hme hpath hfun]
  rfl
theorem operS_sound (hT : TOk P tt) (hcall : ∀ f args h K, callK f args h K → CallSem W P f args h K) {o : Oper} {t : List S} {a : Act} {K : S → List Ob → Prop} {Q : Exit → Act → World → Prop} {next : Act → World → Prop}
    (H : HOk W w0 S0 ν h w) (ht : oks h.length ν t a.tmps.toList) (hk : operS (std W) tt callK o.op t h K) (hn : ∀ v w', Post W w0 S0 ν h.length K v w' → next (a.put o.dst v) w') : o.wp P a w next Q := by
  have plain : opS (std W) tt o.op (evS t) h K → o.wp P a w next Q := by
    intro hk
    obtain ⟨v, w', h1, h2⟩ := opS_sound hT H ht hk
    unfold Oper.wp
    rcases h2 with h2 | ⟨h2, rfl⟩
    · rw [h2]; exact hn _ _ h1
    · rw [h2]; exact hn _ _ h1
  have enter : ∀ {f : FuncId} {args : List S} {vs : List Value}, callK f args h K → oks h.length ν args vs → (execOp a.eval o).run P w = (callFunc f vs.toArray).run P w → o.wp P a w next Q := by
    intro f args vs hk hvs hrun
    unfold Oper.wp
    rw [hrun]
    rcases hcall _ _ _ _ hk w w0 S0 ν vs H hvs with ⟨h1, h2⟩ | ⟨v, w', h1, h2⟩
    · rw [h1]
      refine h2.mono ?_
      rintro e w' ⟨v, rfl, hp⟩
      exact hn _ _ hp
    · rw [h1]
      exact hn _ _ h2
  obtain ⟨dst, op, ty, pos, after, guard⟩ := o
  cases op with
  | call c =>
    obtain ⟨callee, args, ats⟩ := c
    cases callee with
    | value f =>
      simp only [operS] at hk
      split at hk
      · rename_i g cap hf
        have hfv := ev_ok ht f
        rw [hf] at hfv
        simp only [S.ok] at hfv
        obtain ⟨cs, hfv, hcs⟩ := hfv
        refine enter hk (oks_append (evs_ok ht args.toList) hcs) ?_
        have hargs : (args.map a.eval) ++ cs.toArray = (args.toList.map a.eval ++ cs).toArray := by
          apply Array.toList_inj.1; simp
        simp only [execOp, resolve, hfv, Deferred.ofValue, Sem.run_bind, Sem.run_pure, Result.andThen_ok, invoke]
        rw [Array.empty_append, hargs]
      · rename_i g fs hf
        have hfv := ev_ok ht f
        rw [hf] at hfv
        simp only [S.ok] at hfv
        obtain ⟨cs, hfv, hcs⟩ := hfv
        refine enter hk (oks_append hcs (evs_ok ht args.toList)) ?_
        have hargs : cs.toArray ++ (args.map a.eval) = (cs ++ args.toList.map a.eval).toArray := by
          apply Array.toList_inj.1; simp
        simp only [execOp, resolve, hfv, Deferred.ofValue, Sem.run_bind, Sem.run_pure, Result.andThen_ok, invoke]
        rw [Array.append_empty, hargs]
      · exact hk.elim
    | invoke r name =>
      simp only [operS] at hk
      split at hk
      case h_2 => exact hk.elim
      rename_i tr v hr
      split at hk
      case h_2 => exact hk.elim
      rename_i ti hti
      split at hk
      case h_2 => exact hk.elim
      rename_i nm f hm
      have hrv := ev_ok ht r
      rw [hr] at hrv
      simp only [S.ok] at hrv
      obtain ⟨u, hrv, hu⟩ := hrv
      refine enter hk (oks_cons hu (evs_ok ht args.toList)) ?_
      have hname : nm = name := by have := List.find?_some hm; simpa using this
      subst hname
      obtain ⟨e, i, hund, hinfo, me, hme, hpath, hfun⟩ := (hT tr ti hti).mets _ _ hm
      have hargs : #[u] ++ (args.map a.eval) = (u :: args.toList.map a.eval).toArray := by
        apply Array.toList_inj.1; simp
      rw [run_invoke hund hinfo hme hpath hfun hrv, hargs]
    | builtin b =>
      by_cases hb : b = .append
      · subst hb
        simp only [operS] at hk
        split at hk
        case h_2 => exact hk.elim
        rename_i x y t1 t2 hxy hat
        obtain ⟨rfl, hk2⟩ := ifP hk (fun x => x)
        have hx := evs_ok ht args.toList
        rw [hxy] at hx
        generalize hvs : args.toList.map a.eval = vs at hx
        simp only [S.oks] at hx
        obtain ⟨xv, _, rfl, h1, yv, _, rfl, h2, rfl⟩ := hx
        obtain ⟨s, h', ν', v, w', g1, g2, g3, g4, g5, g6⟩ := appS_sound (ty := ty) hT H hk2 h1 h2
        have hats : ats = #[t1, t1] := by apply Array.toList_inj.1; simpa using hat
        have hargs : args.map a.eval = #[xv, yv] := by apply Array.toList_inj.1; simpa using hvs
        subst hats
        unfold Oper.wp
        have hrun : (execOp a.eval { dst := dst, op := .call { callee := .builtin .append, args := args, argTypes := #[t1, t1] }, type := ty, pos := pos, after := after, guard := guard }).run P w = .ok (.value v) w' := by
          simp [execOp, resolve, invoke, builtin, hargs, g2]
        rw [hrun]
        exact hn _ _ ⟨s, h', ν', g1, g4, g5, g6, g3⟩
      · by_cases hl : b = .len
        · subst hl
          simp only [operS] at hk
          split at hk
          case h_2 => exact plain hk
          rename_i id ty' hxy hat
          have hx := evs_ok ht args.toList
          rw [hxy] at hx
          generalize hvs : args.toList.map a.eval = vs at hx
          simp only [S.oks] at hx
          obtain ⟨xv, _, rfl, h1, rfl⟩ := hx
          cases hm : mapLenS tt ty' (.mp id) h with
          | none => rw [hm] at hk; exact hk.elim
          | some s =>
          rw [hm] at hk
          obtain ⟨v, g1, g2⟩ := mapLenS_sound (ty := ty) hT H hm h1
          have hats : ats = #[ty'] := by apply Array.toList_inj.1; simpa using hat
          have hargs : args.map a.eval = #[xv] := by apply Array.toList_inj.1; simpa using hvs
          subst hats
          unfold Oper.wp
          have hrun : (execOp a.eval { dst := dst, op := .call { callee := .builtin .len, args := args, argTypes := #[ty'] }, type := ty, pos := pos, after := after, guard := guard }).run P w = .ok (.value v) w := by
            simp [execOp, resolve, invoke, builtin, hargs, g2]
          rw [hrun]
          exact hn _ _ ⟨s, h, ν, hk, Nat.le_refl _, fun _ _ => rfl, H, g1⟩
        · refine plain ?_
          cases b <;> first | exact hk | exact absurd rfl hb | exact absurd rfl hl
  | makeMap mt r =>
    cases r with
    | some r => exact plain hk
    | none =>
      simp only [operS] at hk
      unfold Oper.wp
      have hrun : (execOp a.eval { dst := dst, op := .makeMap mt none, type := ty, pos := pos, after := after, guard := guard }).run P w = .ok (.value (.map (some w.heap.size))) (w.alloc (.map #[] 0)) := by
        simp [execOp, Instr.makeMap]
      rw [hrun]
      exact hn _ _ ⟨_, _, _, hk, by simp, updE_lt, makeMap_sound H, by simp [S.ok, updE_eq]⟩
  | mapUpdate mt m k v =>
    simp only [operS] at hk
    split at hk
    case h_2 => exact hk.elim
    rename_i h' hm
    obtain ⟨w', g1, g2, g3⟩ := mapUpdS_sound hT H hm (ev_ok ht m) (ev_ok ht k) (ev_ok ht v)
    unfold Oper.wp
    have hrun : (execOp a.eval { dst := dst, op := .mapUpdate mt m k v, type := ty, pos := pos, after := after, guard := guard }).run P w = .ok .skip w' := by
      simp [execOp, g1]
    rw [hrun]
    exact hn _ _ ⟨_, h', ν, hk, by omega, fun _ _ => rfl, g2, by simp only [S.ok]⟩
  | insert mt m k v =>
    simp only [operS] at hk
    split at hk
    case h_2 => exact hk.elim
    rename_i h' hm
    obtain ⟨w', g1, g2, g3⟩ := mapUpdS_sound hT H hm (ev_ok ht m) (ev_ok ht k) (ev_ok ht v)
    unfold Oper.wp
    have hrun : (execOp a.eval { dst := dst, op := .insert mt m k v, type := ty, pos := pos, after := after, guard := guard }).run P w = .ok .skip w' := by
      simp [execOp, g1]
    rw [hrun]
    exact hn _ _ ⟨_, h', ν, hk, by omega, fun _ _ => rfl, g2, by simp only [S.ok]⟩
  | lookup mt m k b =>
    simp only [operS] at hk
    obtain ⟨s, bb, hk, v, g1, g2, g3⟩ := lookK_sound hT H hk (ev_ok ht m) (ev_ok ht k)
    cases b with
    | true =>
      simp only at hk
      unfold Oper.wp
      have hrun : (execOp a.eval { dst := dst, op := .lookup mt m k true, type := ty, pos := pos, after := after, guard := guard }).run P w = .ok (.value (.tuple #[v, .bool bb])) w := by
        simp [execOp, g3]
      rw [hrun]
      exact hn _ _ ⟨_, h, ν, hk, Nat.le_refl _, fun _ _ => rfl, H, by simp only [S.ok]; exact ⟨[v, .bool bb], rfl, oks_cons g1 (oks_cons (by simp only [S.ok]) oks_nil)⟩⟩
    | false =>
      simp only at hk
      unfold Oper.wp
      have hrun : (execOp a.eval { dst := dst, op := .lookup mt m k false, type := ty, pos := pos, after := after, guard := guard }).run P w = .ok (.value v) w := by
        simp [execOp, g2]
      rw [hrun]
      exact hn _ _ ⟨s, h, ν, hk, Nat.le_refl _, fun _ _ => rfl, H, g1⟩
  | _ => exact plain hk

theorem put_tmps (a : Act) (d : Option Tmp) (v : Value) : (a.put d v).tmps.toList = match d with | some d => a.tmps.toList.set d v | none => a.tmps.toList := by
  cases d <;> simp [Act.put]
theorem put_defers (a : Act) (d : Option Tmp) (v : Value) : (a.put d v).defers = a.defers := by cases d <;> rfl
theorem putD_ok {m : Nat} {t : List S} {a : Act} {s : S} {v : Value} (d : Option Tmp) (ht : oks m ν t a.tmps.toList) (hs : s.ok m ν v) : oks m ν (putD t d s) (a.put d v).tmps.toList := by
  rw [put_tmps]
  cases d with
  | none => exact ht
  | some d => exact setT_ok d ht hs
theorem setT_same {m : Nat} {t : List S} {vs : List Value} {s : S} (d : Nat) (ht : oks m ν t vs) (hs : s.ok m ν (vs.getD d undef)) : oks m ν (setT t d s) vs := by
  have h1 := setT_ok d ht hs
  have h2 : vs.set d (vs.getD d undef) = vs := by
    rcases Nat.lt_or_ge d vs.length with h | h
    · simp [List.getD, h]
    · rw [List.set_eq_of_length_le h]
  rwa [h2] at h1
theorem yielded_of {ops : Array Oper} {j : Nat} {d : Tmp} {tmps : Array Value} (hd : dstOf ops.toList j = some d) : yielded ops tmps j = match tmps[d]? with | some (.bool b) => some b | _ => none := by
  unfold dstOf at hd
  split at hd
  case h_2 => cases hd
  rename_i o ho
  have ho' : ops[j]? = some o := by simpa using ho
  simp only [yielded, ho', hd, Option.bind_some]
  rfl
theorem yielded_bool {ops : Array Oper} {j : Nat} {d : Tmp} {a : Act} {x : Bool} (hd : dstOf ops.toList j = some d) (hv : a.tmps.toList.getD d undef = .bool x) : yielded ops a.tmps j = some x := by
  rw [yielded_of hd]
  rcases Nat.lt_or_ge d a.tmps.toList.length with h | h
  · have h' : d < a.tmps.size := by simpa using h
    have : a.tmps[d]? = some (.bool x) := by
      rw [Array.getElem?_eq_getElem h']
      rw [List.getD_eq_getElem?_getD, List.getElem?_eq_getElem h, Option.getD_some] at hv
      rw [← hv]; simp
    rw [this]
  · rw [List.getD_eq_getElem?_getD, List.getElem?_eq_none h] at hv
    simp [undef] at hv
theorem yielded_un {ops : Array Oper} {j : Nat} {d : Tmp} {a : Act} (hd : dstOf ops.toList j = some d) (hv : a.tmps.toList.getD d undef = undef) : yielded ops a.tmps j = none := by
  rw [yielded_of hd]
  rcases Nat.lt_or_ge d a.tmps.toList.length with h | h
  · have h' : d < a.tmps.size := by simpa using h
    have : a.tmps[d]? = some undef := by
      rw [Array.getElem?_eq_getElem h']
      rw [List.getD_eq_getElem?_getD, List.getElem?_eq_getElem h, Option.getD_some] at hv
      rw [← hv]; simp
    rw [this]; rfl
  · have h' : a.tmps.size ≤ d := by simpa using h
    rw [Array.getElem?_eq_none h']
/-- What an operation behind its guard leaves. -/
structure GPost (W : Addr → Nat → Nat → Option (List S)) (w0 : World) (S0 : List Nat) (ν : Nat → Env) (n : Nat) (K : List S → List Ob → S → Prop) (a : Act) (w : World) (t' : List S) (h' : List Ob) (ν' : Nat → Env) (s : S) : Prop where
  k : K t' h' s
  le : n ≤ h'.length
  ext : ∀ i, i < n → ν' i = ν i
  hok : HOk W w0 S0 ν' h' w
  tok : oks h'.length ν' t' a.tmps.toList
  def_ : a.defers = []
theorem guardD_cases {ops : Array Oper} {o : Oper} {t : List S} {a : Act} {m : Nat} {run skip : List S → Prop} (ht : oks m ν t a.tmps.toList) (hk : guardD (guOf ops.toList o) t run skip) :
    (Region.wanted o (yielded ops a.tmps) = true ∧ ∃ t', oks m ν t' a.tmps.toList ∧ run t') ∨ (Region.wanted o (yielded ops a.tmps) = false ∧ ∃ t', oks m ν t' a.tmps.toList ∧ skip t') := by
  simp only [guardD, guOf] at hk
  cases hg : o.guard with
  | none =>
    rw [hg] at hk
    exact Or.inl ⟨by simp [Region.wanted, hg], t, ht, hk⟩
  | some jw =>
    obtain ⟨j, want⟩ := jw
    rw [hg] at hk
    simp only at hk
    have hw : ∀ y, Region.wanted o y = (y j == some want) := fun y => by simp [Region.wanted, hg]
    cases hdst : dstOf ops.toList j with
    | none => rw [hdst] at hk; exact hk.elim
    | some d =>
      rw [hdst] at hk
      simp only at hk
      have hv := getT_ok d ht
      split at hk
      · rename_i x he
        rw [he] at hv
        simp only [S.ok] at hv
        have hy := yielded_bool (a := a) hdst hv
        cases x <;> cases want <;> simp only at hk
        · exact Or.inl ⟨by rw [hw, hy]; rfl, t, ht, hk⟩
        · exact Or.inr ⟨by rw [hw, hy]; rfl, t, ht, hk⟩
        · exact Or.inr ⟨by rw [hw, hy]; rfl, t, ht, hk⟩
        · exact Or.inl ⟨by rw [hw, hy]; rfl, t, ht, hk⟩
      · rename_i x he
        rw [he] at hv
        simp only [S.ok] at hv
        have hy := yielded_bool (a := a) hdst hv
        split at hk
        · rename_i hx
          subst hx
          have ht' := setT_same (s := .bl true) d ht (by simp only [S.ok]; exact hv)
          cases want <;> simp only at hk
          · exact Or.inr ⟨by rw [hw, hy]; rfl, _, ht', hk⟩
          · exact Or.inl ⟨by rw [hw, hy]; rfl, _, ht', hk⟩
        · rename_i hx
          have hx : x = false := by simpa using hx
          subst hx
          have ht' := setT_same (s := .bl false) d ht (by simp only [S.ok]; exact hv)
          cases want <;> simp only at hk
          · exact Or.inl ⟨by rw [hw, hy]; rfl, _, ht', hk⟩
          · exact Or.inr ⟨by rw [hw, hy]; rfl, _, ht', hk⟩
      · rename_i he
        rw [he] at hv
        simp only [S.ok] at hv
        have hy := yielded_un (a := a) hdst hv
        exact Or.inr ⟨by rw [hw, hy]; rfl, t, ht, hk⟩
      · exact hk.elim
theorem orcS_ok {s : S} {v : Value} {K : S → List Ob → Prop} (H : HOk W w0 S0 ν h w) (hs : s.ok h.length ν v) (hk : orcS s h K) : ∃ s2 h2, K s2 h2 ∧ h2.length = h.length ∧ HOk W w0 S0 ν h2 w ∧ s2.ok h.length ν v := by
  have at_ : ∀ {i : Nat} {l : List OI}, getO h i = .orc l → h[i]? = some (.orc l) := by
    intro i l ho
    rcases getO_spec h i with hz | hz
    · rw [hz, ho]
    · rw [hz] at ho; cases ho
  unfold orcS at hk
  split at hk
  · rename_i c
    split at hk
    · rename_i l ho
      split at hk
      · rename_i x r
        obtain ⟨rfl, hk⟩ := hk
        rw [setOK_eq, setO_eq] at hk
        exact ⟨_, _, hk, by simp, H.orc (at_ ho) r, by simp only [S.ok] at hs ⊢; exact hs⟩
      · exact ⟨_, h, hk, rfl, H, hs⟩
    · exact ⟨_, h, hk, rfl, H, hs⟩
  · rename_i k c
    split at hk
    · rename_i l ho
      split at hk
      · rename_i x r
        obtain ⟨rfl, hk⟩ := hk
        rw [setOK_eq, setO_eq] at hk
        exact ⟨_, _, hk, by simp, H.orc (at_ ho) r, by simp only [S.ok] at hs ⊢; exact hs⟩
      · rename_i x r
        obtain ⟨rfl, hk⟩ := hk
        rw [setOK_eq, setO_eq] at hk
        exact ⟨_, _, hk, by simp, H.orc (at_ ho) r, by simp only [S.ok] at hs ⊢; exact hs⟩
      · rename_i r
        rw [setOK_eq, setO_eq] at hk
        exact ⟨_, _, hk, by simp, H.orc (at_ ho) r, hs⟩
      · exact ⟨_, h, hk, rfl, H, hs⟩
    · exact ⟨_, h, hk, rfl, H, hs⟩
  · exact ⟨_, h, hk, rfl, H, hs⟩
theorem runG_sound (hT : TOk P tt) (hcall : ∀ f args h K, callK f args h K → CallSem W P f args h K) {ops : Array Oper} {o : Oper} {t : List S} {a : Act} {K : List S → List Ob → S → Prop}
    (H : HOk W w0 S0 ν h w) (ht : oks h.length ν t a.tmps.toList) (hd : a.defers = []) (hk : runG (std W) tt callK (coOf ops.toList o) t h K) :
    (Region.wanted o (yielded ops a.tmps) = true ∧ ∀ (next : Act → World → Prop) (Q : Exit → Act → World → Prop), (∀ t' h' ν' s v a' w', a' = a.put o.dst v → GPost W w0 S0 ν h.length K a' w' t' h' ν' s → next a' w') → o.wp P a w next Q) ∨
    (Region.wanted o (yielded ops a.tmps) = false ∧ ∃ t', GPost W w0 S0 ν h.length K (a.put o.dst undef) w t' h ν .un) := by
  rw [runG_eq] at hk
  rcases guardD_cases ht hk with ⟨h1, t', ht', hk⟩ | ⟨h1, t', ht', hk⟩
  · refine Or.inl ⟨h1, fun next Q hn => operS_sound hT hcall H ht' hk fun v w' hp => ?_⟩
    obtain ⟨s, h', ν', h1, h2, h3, h4, h5⟩ := hp
    obtain ⟨s2, h2', k1, k2, k3, k4⟩ := orcS_ok h4 h5 h1
    exact hn _ h2' ν' s2 v _ w' rfl ⟨k1, by omega, h3, k3, by rw [k2]; exact putD_ok o.dst (S.oks_mono h3 h2 _ _ ht') k4, by rw [put_defers]; exact hd⟩
  · exact Or.inr ⟨h1, _, hk, Nat.le_refl _, fun _ _ => rfl, H, putD_ok o.dst ht' (by simp only [S.ok]), by rw [put_defers]; exact hd⟩
theorem execOps_sound (hT : TOk P tt) (hcall : ∀ f args h K, callK f args h K → CallSem W P f args h K) {ops : Array Oper} {Q : Exit → Act → World → Prop} :
    ∀ (l : List Oper) {t : List S} {h : List Ob} {ν : Nat → Env} {a : Act} {w : World} {K : St → Prop}, HOk W w0 S0 ν h w → oks h.length ν t a.tmps.toList → a.defers = [] → execOps (std W) tt callK (l.map (coOf ops.toList)) t h K →
      (∀ (st : St) (ν' : Nat → Env) (a' : Act) (w' : World), K st → h.length ≤ st.h.length → (∀ i, i < h.length → ν' i = ν i) → HOk W w0 S0 ν' st.h w' → oks st.h.length ν' st.t a'.tmps.toList → a'.defers = [] → Q .normal a' w') → wpList P ops Q l a w
  | [], t, h, ν, a, w, K, H, ht, hd, hk, hq => hq ⟨t, h⟩ ν a w hk (Nat.le_refl _) (fun _ _ => rfl) H ht hd
  | o :: l, t, h, ν, a, w, K, H, ht, hd, hk, hq => by
    simp only [List.map_cons, execOps_cons] at hk
    have go : ∀ (t' : List S) (h' : List Ob) (ν' : Nat → Env) (s : S) (a' : Act) (w' : World), GPost W w0 S0 ν h.length (fun t' h' _ => execOps (std W) tt callK (l.map (coOf ops.toList)) t' h' K) a' w' t' h' ν' s → wpList P ops Q l a' w' := by
      intro t' h' ν' s a' w' g
      refine execOps_sound hT hcall l g.hok g.tok g.def_ g.k fun st ν'' a'' w'' k1 k2 k3 k4 k5 k6 => hq st ν'' a'' w'' k1 (Nat.le_trans g.le k2) (fun i hi => (k3 i (Nat.lt_of_lt_of_le hi g.le)).trans (g.ext i hi)) k4 k5 k6
    rcases runG_sound hT hcall H ht hd hk with ⟨h1, h2⟩ | ⟨h1, t', g⟩
    · refine wpList_step fun K' hK' => ?_
      rw [if_pos h1]
      exact h2 K' Q fun t' h' ν' s v a' w' _ g => hK' _ _ (go t' h' ν' s a' w' g)
    · refine wpList_step fun K' hK' => ?_
      rw [if_neg (by rw [h1]; decide)]
      exact hK' _ _ (go t' h ν .un _ _ g)
end
end Go.SX
