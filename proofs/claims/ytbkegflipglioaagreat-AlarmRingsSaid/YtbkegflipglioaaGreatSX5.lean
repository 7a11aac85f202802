/- SX: operations that touch no memory do in any world what 'opS' says. -/
import Derived.Test.YtbkegflipglioaaGreatSX4
namespace Go.SX
open Go.RowKit

structure TIOk (P : Program) (t : TypeId) (ti : TI) : Prop where
  zl : ti.zero.length = ti.size
  info : ∃ i z vs, P.info? t = some i ∧ i.size = ti.size ∧ i.bytes = ti.bytes ∧ i.zero = some z ∧ z.cells = vs.toArray ∧ (∀ m ν, oks m ν ti.zero vs) ∧ (match ti.agg with
    | true => z = .agg vs.toArray
    | false => vs = [z])
  desc : match ti.d with
    | .int k => P.underlying t = some (.int k)
    | .bool => P.underlying t = some .bool
    | .string => P.underlying t = some .string
    | .ptr e => P.underlying t = some (.pointer e)
    | .slice e => P.underlying t = some (.slice e)
    | .arr n e => P.underlying t = some (.array n e)
    | .struct fs => ∃ fa : Array Field, P.underlying t = some (.struct fa) ∧ fa.toList.map (fun f => (f.offset, f.type)) = fs ∧ (∀ f ∈ fa.toList, f.name ≠ "_") ∧ P.stoodInHeld t = false
    | .map k e => P.underlying t = some (.map k e)
    | .iface => ∃ ms, P.underlying t = some (.interface ms)
    | .func => ∃ a b c, P.underlying t = some (.func a b c)
  guard : ti.agg = true → ti.cmp = true → P.eqGuardType P.depth t = false
  mets : ∀ n f, ti.ms.find? (fun m => m.1 == n) = some (n, f) → ∃ e i, P.underlying t = some (.pointer e) ∧ P.info? t = some i ∧ ∃ me, i.methods.find? (·.name == n) = some me ∧ me.path = #[] ∧ me.func = some (f, true)
def TOk (P : Program) (tt : Nat → Option TI) : Prop := ∀ t ti, tt t = some ti → TIOk P t ti

section
variable {W : Addr → Nat → Nat → Option (List S)}
variable {P : Program} {t : TypeId} {ti : TI}
theorem run_size (h : TIOk P t ti) (w : World) : (sizeOf t).run P w = .ok ti.size w := by
  obtain ⟨i, z, vs, h1, h2, _⟩ := h.info
  simp [sizeOf, typeInfo, h1, h2]
theorem run_agg (h : TIOk P t ti) (w : World) : (isAgg t).run P w = .ok ti.agg w := by
  have hd := h.desc
  cases hti : ti.d with
  | struct fs => simp only [hti] at hd; obtain ⟨fa, h1, _⟩ := hd; simp [isAgg, run_underlying h1, TI.agg, hti]
  | iface => simp only [hti] at hd; obtain ⟨fa, h1⟩ := hd; simp [isAgg, run_underlying h1, TI.agg, hti]
  | func => simp only [hti] at hd; obtain ⟨a, b, c, h1⟩ := hd; simp [isAgg, run_underlying h1, TI.agg, hti]
  | _ => simp only [hti] at hd; simp [isAgg, run_underlying hd, TI.agg, hti]
theorem run_zero (h : TIOk P t ti) : ∃ z vs, z.cells = vs.toArray ∧ (∀ m ν, oks m ν ti.zero vs) ∧ ∀ w, (zeroValue t).run P w = .ok z w := by
  obtain ⟨i, z, vs, h1, h2, h3, h4, h5, h6, _⟩ := h.info
  exact ⟨z, vs, h5, h6, fun w => by simp [zeroValue, typeInfo, h1, h4]⟩
theorem run_zero2 (h : TIOk P t ti) : ∃ z vs, (match ti.agg with
    | true => z = .agg vs.toArray
    | false => vs = [z]) ∧ (∀ m ν, oks m ν ti.zero vs) ∧ ∀ w, (zeroValue t).run P w = .ok z w := by
  obtain ⟨i, z, vs, h1, h2, h3, h4, h5, h6, h7⟩ := h.info
  exact ⟨z, vs, h7, h6, fun w => by simp [zeroValue, typeInfo, h1, h4]⟩
theorem run_info (h : TIOk P t ti) : ∃ i, i.size = ti.size ∧ i.bytes = ti.bytes ∧ ∀ w, (typeInfo t).run P w = .ok i w := by
  obtain ⟨i, z, vs, h1, h2, h3, _⟩ := h.info
  exact ⟨i, h2, h3, fun w => by simp [typeInfo, h1]⟩
end

section
variable {W : Addr → Nat → Nat → Option (List S)}
variable {m : Nat} {ν : Nat → Env}
theorem ofV1_ok (v : Value) : (ofV1 v).ok m ν v := by
  cases v with
  | pointer a => cases a <;> simp [ofV1, S.ok]
  | _ => simp [ofV1, S.ok]
theorem oks_ofV1 : ∀ vs : List Value, oks m ν (vs.map ofV1) vs
  | [] => oks_nil
  | v :: vs => oks_cons (ofV1_ok v) (oks_ofV1 vs)
theorem ofV_ok (v : Value) : (ofV v).ok m ν v := by
  cases v with
  | agg cs => simp only [ofV, S.ok]; exact ⟨cs.toList, by simp, oks_ofV1 _⟩
  | _ => simp only [ofV]; exact ofV1_ok _
theorem getT_ok : ∀ {t : List S} {vs : List Value} (i : Nat), oks m ν t vs → (getT t i).ok m ν (vs.getD i undef)
  | [], vs, i, h => by simp only [S.oks] at h; subst h; simp [getT_nil, S.ok]
  | x :: r, vs, 0, h => by
    simp only [S.oks] at h
    obtain ⟨v, r, rfl, h1, h3⟩ := h
    simpa [getT_zero] using h1
  | x :: r, vs, i + 1, h => by
    simp only [S.oks] at h
    obtain ⟨v, r, rfl, h1, h3⟩ := h
    simpa [getT_succ] using getT_ok i h3
theorem setT_ok : ∀ {t : List S} {vs : List Value} (i : Nat) {s : S} {v : Value}, oks m ν t vs → s.ok m ν v → oks m ν (setT t i s) (vs.set i v)
  | [], vs, i, s, v, h, hs => by simp only [S.oks] at h; subst h; simpa [setT] using oks_nil
  | x :: r, vs, 0, s, v, h, hs => by
    simp only [S.oks] at h
    obtain ⟨u, r, rfl, h1, h3⟩ := h
    simpa [setT] using oks_cons hs h3
  | x :: r, vs, i + 1, s, v, h, hs => by
    simp only [S.oks] at h
    obtain ⟨u, r, rfl, h1, h3⟩ := h
    simpa [setT] using oks_cons h1 (setT_ok i h3 hs)
theorem ev_ok {t : List S} {a : Act} (h : oks m ν t a.tmps.toList) (x : Operand) : (evS t x).ok m ν (a.eval x) := by
  cases x with
  | tmp i =>
    have := getT_ok i h
    simpa [evS, Act.eval] using this
  | const v => exact ofV_ok v
  | global g => simp [evS, S.ok, Act.eval]
  | func f => simp [evS, S.ok, S.oks, Act.eval]
end

/-- s answers, whatever the world. -/
def Gives (P : Program) (m : Nat) (ν : Nat → Env) (e : Sem Value) (K : S → Prop) : Prop := ∃ s v, K s ∧ s.ok m ν v ∧ ∀ w, e.run P w = .ok v w

section
variable {W : Addr → Nat → Nat → Option (List S)}
variable {P : Program} {m : Nat} {ν : Nat → Env} {K : S → Prop}
theorem intS_ok (lit : Bool) (k : IntKind) (op : AO) (a b : Int) : (intS (std W) lit k op a b).ok m ν (.int k (stdA op k a b)) := by
  cases lit <;> simp [intS, S.ok, std, stdAF_eq]
theorem cmpS_ok (lit : Bool) (op : BO) (a b : Int) : (cmpS (std W) lit op a b).ok m ν (.bool (stdB op a b)) := by
  cases lit <;> simp [cmpS, S.ok, std, stdBF_eq]
theorem tb_std (lit : Bool) (op : BO) (a b : Int) : tb (std W) lit op a b = stdB op a b := by
  cases lit
  · rfl
  · exact stdBF_eq op a b
theorem ifP {c : Prop} [Decidable c] {A B : Prop} (h : if c then A else B) (hB : ¬ B) : c ∧ A := by
  split at h
  · exact ⟨‹_›, h⟩
  · exact absurd h hB
theorem binI_sound {lit : Bool} {op : BinOp} {k k' : IntKind} {a b : Int} (t : TypeId) (h : binI (std W) lit op k k' a b K) : Gives P m ν (binOp op t (.int k a) (.int k' b)) K := by
  cases op <;> simp only [binI] at h
  case shl =>
    obtain ⟨h0, h1⟩ := ifP h id
    rw [tb_std] at h0
    simp only [stdB, decide_eq_true_eq] at h0
    exact ⟨_, _, h1, intS_ok .., fun w => by simp [binOp, Op.shift, stdA, show ¬ b < 0 by omega]⟩
  case shr =>
    obtain ⟨h0, h1⟩ := ifP h id
    rw [tb_std] at h0
    simp only [stdB, decide_eq_true_eq] at h0
    exact ⟨_, _, h1, intS_ok .., fun w => by simp [binOp, Op.shift, stdA, show ¬ b < 0 by omega]⟩
  case quo =>
    obtain ⟨rfl, h2⟩ := ifP h id
    obtain ⟨h0, h1⟩ := ifP h2 id
    rw [tb_std] at h0
    simp only [stdB, bne_iff_ne, ne_eq] at h0
    exact ⟨_, _, h1, intS_ok .., fun w => by simp [binOp, Op.intDiv, stdA, h0]⟩
  case rem =>
    obtain ⟨rfl, h2⟩ := ifP h id
    obtain ⟨h0, h1⟩ := ifP h2 id
    rw [tb_std] at h0
    simp only [stdB, bne_iff_ne, ne_eq] at h0
    exact ⟨_, _, h1, intS_ok .., fun w => by simp [binOp, Op.intDiv, stdA, h0]⟩
  all_goals obtain ⟨rfl, h1⟩ := ifP h id
  case eql => exact ⟨_, _, h1, cmpS_ok .., fun w => by simp [binOp, Op.intCmp, stdB]⟩
  case neq => exact ⟨_, _, h1, cmpS_ok .., fun w => by simp [binOp, Op.intCmp, stdB]⟩
  case lss => exact ⟨_, _, h1, cmpS_ok .., fun w => by simp [binOp, Op.intCmp, stdB]⟩
  case leq => exact ⟨_, _, h1, cmpS_ok .., fun w => by simp [binOp, Op.intCmp, stdB]⟩
  case gtr => exact ⟨_, _, h1, cmpS_ok .., fun w => by simp [binOp, Op.intCmp, stdB]⟩
  case geq => exact ⟨_, _, h1, cmpS_ok .., fun w => by simp [binOp, Op.intCmp, stdB]⟩
  case add => exact ⟨_, _, h1, intS_ok .., fun w => by simp [binOp, Op.intArith, stdA]⟩
  case sub => exact ⟨_, _, h1, intS_ok .., fun w => by simp [binOp, Op.intArith, stdA]⟩
  case mul => exact ⟨_, _, h1, intS_ok .., fun w => by simp [binOp, Op.intArith, stdA]⟩
  case and => exact ⟨_, _, h1, intS_ok .., fun w => by simp [binOp, Op.intBits, stdA]⟩
  case or => exact ⟨_, _, h1, intS_ok .., fun w => by simp [binOp, Op.intBits, stdA]⟩
  case xor => exact ⟨_, _, h1, intS_ok .., fun w => by simp [binOp, Op.intBits, stdA]⟩
  case andNot => exact ⟨_, _, h1, intS_ok .., fun w => by simp [binOp, Op.intBits, stdA]⟩
end
end Go.SX
