/- SX: tables that are checked by reckoning. -/
import Derived.Test.YtbkegflipglioaaGreatSX14
namespace Go.SX
open Go.RowKit
def zeroB : S → Value → Bool
  | .il k n, .int k' n' => decide (k = k') && n == n'
  | .bl b, .bool b' => b == b'
  | .nil, .pointer a => a.isNone
  | .tl [], .string s => s.data.size == 0
  | .raw (.slice none 0 0), .slice none 0 0 => true
  | .raw .nilIface, .nilIface => true
  | .raw .nilFunc, .nilFunc => true
  | .raw (.map none), .map none => true
  | _, _ => false
def zerosB : List S → List Value → Bool
  | [], [] => true
  | s :: ss, v :: vs => zeroB s v && zerosB ss vs
  | _, _ => false
def descB (P : Program) (t : TypeId) : TD → TypeDesc → Bool
  | .int k, .int k' => decide (k = k')
  | .bool, .bool => true
  | .string, .string => true
  | .ptr e, .pointer e' => e == e'
  | .slice e, .slice e' => e == e'
  | .arr n e, .array n' e' => n == n' && e == e'
  | .struct fs, .struct fa => (fa.toList.map fun f => (f.offset, f.type)) == fs && (fa.toList.all fun f => f.name != "_") && !P.stoodInHeld t
  | .map k e, .map k' e' => k == k' && e == e'
  | .iface, .interface _ => true
  | .func, .func _ _ _ => true
  | _, _ => false
def metB (i : TypeInfo) (x : String × FuncId) : Bool := match i.methods.find? (·.name == x.1) with
  | some me => me.path.size == 0 && me.func == some (x.2, true)
  | none => false
def checkTI (P : Program) (t : TypeId) (ti : TI) : Bool := match P.info? t, P.underlying t with
  | some i, some d => i.size == ti.size && i.bytes == ti.bytes && ti.zero.length == ti.size && (match i.zero with
      | some z => zerosB ti.zero z.cells.toList && (match z with
        | .agg _ => ti.agg
        | _ => !ti.agg && z.cells.size == 1)
      | none => false) && descB P t ti.d d && (!ti.agg || (!ti.cmp || !P.eqGuardType P.depth t)) && (ti.ms.isEmpty || (match d with
        | .pointer _ => true
        | _ => false)) && ti.ms.all (metB i)
  | _, _ => false
theorem zeroB_ok {s : S} {v : Value} (h : zeroB s v = true) (m : Nat) (ν : Nat → Env) : s.ok m ν v := by
  unfold zeroB at h
  split at h
  · simp only [Bool.and_eq_true, decide_eq_true_eq, beq_iff_eq] at h; obtain ⟨rfl, rfl⟩ := h; simp only [S.ok]
  · simp only [beq_iff_eq] at h; subst h; simp only [S.ok]
  · rename_i a; cases a with
    | none => simp only [S.ok]
    | some a => cases h
  · rename_i s
    simp only [beq_iff_eq] at h
    simp only [S.ok]
    obtain ⟨d⟩ := s
    have : d = #[] := Array.eq_empty_of_size_eq_zero h
    rw [this]
  · simp only [S.ok]
  · simp only [S.ok]
  · simp only [S.ok]
  · simp only [S.ok]
  · cases h
theorem zerosB_ok : ∀ {ss : List S} {vs : List Value}, zerosB ss vs = true → ∀ m ν, oks m ν ss vs
  | [], [], _, m, ν => oks_nil
  | s :: ss, v :: vs, h, m, ν => by
    simp only [zerosB, Bool.and_eq_true] at h
    exact oks_cons (zeroB_ok h.1 m ν) (zerosB_ok h.2 m ν)
  | [], v :: vs, h, _, _ => by cases h
  | s :: ss, [], h, _, _ => by cases h
theorem tiOk_of {P : Program} {t : TypeId} {ti : TI} (h : checkTI P t ti = true) : TIOk P t ti := by
  unfold checkTI at h
  split at h
  case h_2 => cases h
  rename_i i d hi hd
  simp only [Bool.and_eq_true, beq_iff_eq, Bool.or_eq_true, Bool.not_eq_true'] at h
  obtain ⟨⟨⟨⟨⟨⟨⟨h1, h2⟩, h3⟩, h4⟩, h5⟩, h6⟩, h7⟩, h8⟩ := h
  refine ⟨h3, ?_, ?_, ?_, ?_⟩
  · cases hz : i.zero with
    | none => rw [hz] at h4; cases h4
    | some z =>
      rw [hz] at h4
      simp only [Bool.and_eq_true] at h4
      refine ⟨i, z, z.cells.toList, hi, h1, h2, hz, by simp, zerosB_ok h4.1, ?_⟩
      have h9 := h4.2
      cases z <;> simp only [Bool.and_eq_true, Bool.not_eq_true', beq_iff_eq] at h9
      case agg cs => rw [h9]; simp [Value.cells]
      all_goals
        rw [h9.1]
        simp [Value.cells] at h9 ⊢
  · cases hti : ti.d <;> rw [hti] at h5 <;> cases d <;> simp only [descB, Bool.false_eq_true, decide_eq_true_eq, beq_iff_eq, Bool.and_eq_true] at h5 <;> simp only
    case int.int => rw [h5]; exact hd
    case bool.bool => exact hd
    case string.string => exact hd
    case ptr.pointer => rw [h5]; exact hd
    case slice.slice => rw [h5]; exact hd
    case arr.array => rw [h5.1, h5.2]; exact hd
    case struct.struct fs fa =>
      obtain ⟨⟨g1, g2⟩, g3⟩ := h5
      refine ⟨fa, hd, g1, fun f hf => ?_, by simpa using g3⟩
      have := List.all_eq_true.1 g2 f hf
      simpa using this
    case map.map => rw [h5.1, h5.2]; exact hd
    case iface.interface ms => exact ⟨ms, hd⟩
    case func.func a b c => exact ⟨a, b, c, hd⟩
  · intro hag
    rcases h6 with h6 | h6
    · rw [hag] at h6; cases h6
    · intro hc
      rcases h6 with h6 | h6
      · rw [hc] at h6; cases h6
      · exact h6
  · intro n f hf
    have hmem := List.mem_of_find?_eq_some hf
    have hm := List.all_eq_true.1 h8 _ hmem
    have hp : ∃ e, d = .pointer e := by
      rcases h7 with h7 | h7
      · rw [List.isEmpty_iff] at h7; rw [h7] at hmem; cases hmem
      · split at h7
        · exact ⟨_, rfl⟩
        · cases h7
    obtain ⟨e, rfl⟩ := hp
    unfold metB at hm
    split at hm
    case h_2 => cases hm
    rename_i me hme
    simp only [Bool.and_eq_true, beq_iff_eq] at hm
    exact ⟨e, i, hd, hi, me, hme, Array.eq_empty_of_size_eq_zero hm.1, hm.2⟩
theorem ite_some {α : Type} {c : Prop} [Decidable c] {A B : Option α} {x : α} {R : Prop} (h : (if c then A else B) = some x) (ha : A = some x → R) (hb : B = some x → R) : R := by
  split at h
  · exact ha h
  · exact hb h
theorem ite_leaf {α : Type} {n k : Nat} {v x : α} {R : Nat → α → Prop} (h : (if n = k then some v else none) = some x) (hr : R k v) : R n x := by
  split at h
  · rename_i hn; subst hn; cases h; exact hr
  · cases h
theorem cond_some {α : Type} {c : Bool} {A B : Option α} {x : α} {R : Prop} (h : cond c A B = some x) (ha : A = some x → R) (hb : B = some x → R) : R := by
  cases c
  · exact hb h
  · exact ha h
theorem cond_leaf {α : Type} {n k : Nat} {v x : α} {R : Nat → α → Prop} (h : cond (Nat.beq n k) (some v) none = some x) (hr : R k v) : R n x := by
  cases hc : Nat.beq n k with
  | true => rw [hc] at h; have := Nat.eq_of_beq_eq_true hc; subst this; cases h; exact hr
  | false => rw [hc] at h; cases h
def FIOk (P : Program) (f : FuncId) (fi : FI) : Prop := ∃ fn c, P.funcs[f]? = some fn ∧ fn.body = some c ∧ comp c = fi.body ∧ fn.ntmps = fi.ntmps ∧ fn.results.toList = fi.res ∧ ∀ (as : Array Value) (w : World), (callFunc f as).run P w = .ok (.enter f as) w
theorem fiOk_of {P : Program} {f : FuncId} {fi : FI} {fn : Func} (h1 : P.funcs[f]? = some fn) (h2 : fn.body.map comp = some fi.body) (h3 : fn.ntmps = fi.ntmps) (h4 : fn.results.toList = fi.res) (h5 : ∀ (as : Array Value) (w : World), (callFunc f as).run P w = .ok (.enter f as) w) : FIOk P f fi := by
  cases hb : fn.body with
  | none => rw [hb] at h2; cases h2
  | some c =>
    rw [hb] at h2
    simp only [Option.map_some, Option.some.injEq] at h2
    exact ⟨fn, c, h1, hb, h2, h3, h4, h5⟩
end Go.SX
