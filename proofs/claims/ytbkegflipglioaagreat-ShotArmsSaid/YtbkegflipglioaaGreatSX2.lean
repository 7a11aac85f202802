/- SX: SX1 to SX2. -/
import Derived.WalkKit
import Derived.WalkLawsBesides
import Derived.KernelRfl
namespace Go.SX
noncomputable section

inductive NN where
  | l (n : Nat)
  | v (n : Nat)
def NN.val : NN → Nat
  | .l n => n
  | .v n => n
inductive Cap where
  | lit (n : NN)
  | rest (k : NN)

inductive S where
  | il (k : IntKind) (n : Int)
  | iv (k : IntKind) (n : Int)
  | bl (x : Bool)
  | bv (x : Bool)
  | tl (x : List UInt8)
  | tv (x : List UInt8)
  | ptr (id : Nat) (off : NN)
  | rp (a : Addr) (off : NN)
  | nil
  | sli (id : Nat) (off len : NN) (c : Cap) (z : Bool)
  | nsl (id : Nat) (len : NN) (p z : Bool)
  | zsl
  | tsl (id : Nat) (n : NN) (top : Nat)
  | pel (id i sz off : Nat)
  | raw (v : Value)
  | fn (f : FuncId) (cap : List S)
  | bm (f : FuncId) (fs : List S)
  | ifc (t : TypeId) (x : S)
  | mp (id : Nat)
  | agg (cs : List S)
  | tup (cs : List S)
  | un
  | junk

structure Env where
  blk : Nat
  base : Nat
  cap : Nat
  len : Nat
def Cap.val (e : Env) : Cap → Nat
  | .lit n => n.val
  | .rest k => e.cap - k.val

mutual
def S.ok (m : Nat) (ν : Nat → Env) : S → Value → Prop
  | .il k n, v => v = .int k n
  | .iv k n, v => v = .int k n
  | .bl x, v => v = .bool x
  | .bv x, v => v = .bool x
  | .tl x, v => v = .string ⟨x.toArray⟩
  | .tv x, v => v = .string ⟨x.toArray⟩
  | .ptr id off, v => id < m ∧ v = .pointer (some ⟨(ν id).blk, (ν id).base + off.val, none⟩)
  | .rp a off, v => v = .pointer (some ⟨a.block, a.off + off.val, none⟩)
  | .nil, v => v = .pointer none
  | .sli id off len c z, v => id < m ∧ len.val ≤ c.val (ν id) ∧ c.val (ν id) ≤ maxLen ∧ ∃ a, v = .slice (some a) len.val (c.val (ν id)) ∧ ((z = false ∨ c.val (ν id) ≠ 0) → a = ⟨(ν id).blk, (ν id).base + off.val, none⟩)
  | .zsl, v => ∃ a, v = .slice a 0 0
  | .tsl id n top, v => id < m ∧ 0 < n.val ∧ n.val ≤ top ∧ (ν id).len = n.val ∧ ∃ c, n.val ≤ c ∧ c ≤ maxLen ∧ v = .slice (some ⟨(ν id).blk, (ν id).base, none⟩) n.val c
  | .nsl id len p z, v => id < m ∧ len.val ≤ (ν id).len ∧ (p = false → len.val = (ν id).len) ∧ (((ν id).len = 0 ∧ ∃ a c, v = .slice a 0 c ∧ (z = false → a = none ∧ c = 0)) ∨ (0 < (ν id).len ∧ (ν id).len ≤ (ν id).cap ∧ (ν id).cap ≤ maxLen ∧ v = .slice (some ⟨(ν id).blk, (ν id).base, none⟩) len.val (ν id).cap))
  | .pel id i sz o, v => id < m ∧ i < (ν id).len ∧ v = .pointer (some ⟨(ν id).blk, (ν id).base + (i * sz + o), none⟩)
  | .raw u, v => v = u
  | .fn f cs, v => ∃ vs, v = .func (.func f) #[] vs.toArray ∧ S.oks m ν cs vs
  | .bm f cs, v => ∃ vs, v = .func (.func f) vs.toArray #[] ∧ S.oks m ν cs vs
  | .ifc t x, v => ∃ u, v = .iface t u ∧ x.ok m ν u
  | .mp id, v => id < m ∧ v = .map (some (ν id).blk)
  | .agg cs, v => ∃ vs, v = .agg vs.toArray ∧ S.oks m ν cs vs
  | .tup cs, v => ∃ vs, v = .tuple vs.toArray ∧ S.oks m ν cs vs
  | .un, v => v = undef
  | .junk, _ => True
def S.oks (m : Nat) (ν : Nat → Env) : List S → List Value → Prop
  | [], vs => vs = []
  | c :: cs, vs => ∃ v r, vs = v :: r ∧ c.ok m ν v ∧ S.oks m ν cs r
end
abbrev oks := S.oks

inductive OI where
  | b (x : Bool)
  | n (x : Int)
  | l (x : Int)
  | s
inductive Kd where
  | i (k : IntKind)
  | b
inductive Ob where
  | cells (T : TypeId) (cs : List S)
  | row (T : TypeId) (sz : Nat) (n : NN) (cs : List S)
  | nrow (T : TypeId) (ks : List Kd) (xs : List (List Int))
  | rowT (T : TypeId) (sz n : Nat) (cs : List S)
  | opt (x : Bool) (T : TypeId) (cs : List S)
  | win (cs : List S)
  | nwin (ks : List Kd) (xs : List (List Int))
  | mapo (ks vs : List S)
  | orc (l : List OI)
  | dead
structure St where
  t : List S
  h : List Ob

def nz (x : Int) : Bool := x != 0
def b2i (x : Bool) : Int := match x with | true => 1 | false => 0
def kdc : Kd → Int → S
  | .i k, x => .iv k x
  | .b, x => .bv (nz x)
def recC : List Kd → List Int → List S
  | [], _ => []
  | k :: ks, x => kdc k (x.headD 0) :: recC ks x.tail
def rowC (ks : List Kd) : List (List Int) → List S
  | [] => []
  | x :: xs => recC ks x ++ rowC ks xs
def rowL (xs : List (List Int)) (i : Nat) : List Int := xs.getD i []
def elI (xs : List (List Int)) (i j : Nat) : Int := (rowL xs i).getD j 0
def takeR (n : Nat) (xs : List (List Int)) : List (List Int) := xs.take n
def lenR (xs : List (List Int)) : Nat := xs.length
def apI (xs ys : List (List Int)) : List (List Int) := xs ++ ys
def setI (xs : List (List Int)) (i j : Nat) (v : Int) : List (List Int) := xs.set i ((rowL xs i ++ List.replicate (j + 1 - (rowL xs i).length) 0).set j v)
def elC (xs : List (List Int)) (i : Nat) : List Kd → Nat → List S
  | [], _ => []
  | k :: ks, j => kdc k (elI xs i j) :: elC xs i ks (Nat.succ j)


inductive AO where
  | add | sub | mul | quo | rem | and | or | xor | andNot | shl | shr | conv | min | max
inductive BO where
  | eq | ne | lt | le
inductive NO where
  | add | sub | mul
inductive QO where
  | not | eq | and | or
def stdA : AO → IntKind → Int → Int → Int
  | .add, k, x, y => k.wrap (x + y)
  | .sub, k, x, y => k.wrap (x - y)
  | .mul, k, x, y => k.wrap (x * y)
  | .quo, k, x, y => k.wrap (x.tdiv y)
  | .rem, _, x, y => x.tmod y
  | .and, k, x, y => k.wrap (BitVec.ofInt k.bits x &&& BitVec.ofInt k.bits y).toNat
  | .or, k, x, y => k.wrap (BitVec.ofInt k.bits x ||| BitVec.ofInt k.bits y).toNat
  | .xor, k, x, y => k.wrap (BitVec.ofInt k.bits x ^^^ BitVec.ofInt k.bits y).toNat
  | .andNot, k, x, y => k.wrap (BitVec.ofInt k.bits x &&& ~~~BitVec.ofInt k.bits y).toNat
  | .shl, k, x, y => k.wrap (x * 2 ^ min y.toNat k.bits)
  | .shr, k, x, y => x.fdiv (2 ^ min y.toNat k.bits)
  | .conv, k, x, _ => k.wrap x
  | .min, _, x, y => if y < x then y else x
  | .max, _, x, y => if y > x then y else x
def stdB : BO → Int → Int → Bool
  | .eq, x, y => x == y
  | .ne, x, y => x != y
  | .lt, x, y => decide (x < y)
  | .le, x, y => decide (x ≤ y)
def maxN : IntKind → Nat
  | .i8 => 127
  | .i16 => 32767
  | .i32 => 2147483647
  | .i64 => 9223372036854775807
  | .u8 => 255
  | .u16 => 65535
  | .u32 => 4294967295
  | .u64 => 18446744073709551615
def fitN (k : IntKind) (n : Nat) (other : Int) : Int := match Nat.ble n (maxN k) with
  | true => .ofNat n
  | false => other
def stdAF (op : AO) (k : IntKind) (x y : Int) : Int := match x, y with
  | .ofNat a, .ofNat b => (match op with
    | .add => fitN k (Nat.add a b) (stdA .add k x y)
    | .sub => (match Nat.ble b a with
      | true => fitN k (Nat.sub a b) (stdA .sub k x y)
      | false => stdA .sub k x y)
    | .mul => fitN k (Nat.mul a b) (stdA .mul k x y)
    | .conv => fitN k a (stdA .conv k x y)
    | .quo => fitN k (Nat.div a b) (stdA .quo k x y)
    | .rem => .ofNat (Nat.mod a b)
    | op => stdA op k x y)
  | _, _ => stdA op k x y
def stdBF (op : BO) (x y : Int) : Bool := match x, y with
  | .ofNat a, .ofNat b => (match op with
    | .eq => Nat.beq a b
    | .ne => (match Nat.beq a b with
      | true => false
      | false => true)
    | .lt => Nat.ble (Nat.succ a) b
    | .le => Nat.ble a b)
  | _, _ => stdB op x y
theorem wrap_fit (k : IntKind) (n : Nat) (h : n ≤ maxN k) : k.wrap (n : Int) = n := by
  cases k <;> simp only [maxN] at h <;> simp [IntKind.wrap, IntKind.bits, IntKind.signed] <;> omega
theorem fitN_eq {k : IntKind} {n : Nat} {z other : Int} (hz : other = k.wrap z) (hn : z = n) : fitN k n other = other := by
  unfold fitN
  split
  · rename_i h
    rw [hz, hn, wrap_fit k n (Nat.le_of_ble_eq_true h)]
    rfl
  · rfl
theorem stdAF_eq (op : AO) (k : IntKind) (x y : Int) : stdAF op k x y = stdA op k x y := by
  unfold stdAF
  split
  · rename_i a b
    split
    · exact fitN_eq rfl rfl
    · split
      · rename_i h
        have := Nat.le_of_ble_eq_true h
        exact fitN_eq rfl (by show (a : Int) - (b : Int) = ((a - b : Nat) : Int); omega)
      · rfl
    · exact fitN_eq rfl rfl
    · exact fitN_eq rfl rfl
    · exact fitN_eq rfl rfl
    · rfl
    · rfl
  · rfl
theorem stdBF_eq (op : BO) (x y : Int) : stdBF op x y = stdB op x y := by
  unfold stdBF
  split
  · rename_i a b
    have he : (Int.ofNat a == Int.ofNat b) = Nat.beq a b := by
      cases h : Nat.beq a b with
      | true => have := Nat.eq_of_beq_eq_true h; subst this; simp
      | false => have := Nat.ne_of_beq_eq_false h; simp; omega
    split
    · exact he.symm
    · simp only [stdB, bne, he]
      cases Nat.beq a b <;> rfl
    · simp only [stdB]
      cases h : Nat.ble (Nat.succ a) b with
      | true => have := Nat.le_of_ble_eq_true h; simp; omega
      | false =>
        have : ¬ Nat.succ a ≤ b := fun hl => by rw [Nat.ble_eq_true_of_le hl] at h; cases h
        simp; omega
    · simp only [stdB]
      cases h : Nat.ble a b with
      | true => have := Nat.le_of_ble_eq_true h; simp; omega
      | false =>
        have : ¬ a ≤ b := fun hl => by rw [Nat.ble_eq_true_of_le hl] at h; cases h
        simp; omega
  · rfl
def stdN : NO → Nat → Nat → Nat
  | .add, x, y => x + y
  | .sub, x, y => x - y
  | .mul, x, y => x * y
def stdQ : QO → Bool → Bool → Bool
  | .not, x, _ => !x
  | .eq, x, y => x == y
  | .and, x, y => x && y
  | .or, x, y => x || y
def stdP (a b : List S) : List S := a ++ b
def stdG (cs : List S) (o n : Nat) : Option (List S) := if o + n ≤ cs.length then some ((cs.drop o).take n) else none

inductive Tag where
  | A | B | N | T | Q | G | P | W
def Tag.Ty : Tag → Type
  | .A => AO → IntKind → Int → Int → Int
  | .B => BO → Int → Int → Bool
  | .N => NO → Nat → Nat → Nat
  | .T => Int → Nat
  | .Q => QO → Bool → Bool → Bool
  | .G => List S → Nat → Nat → Option (List S)
  | .P => List S → List S → List S
  | .W => Addr → Nat → Nat → Option (List S)
def Fns : Type := (t : Tag) → t.Ty
def std (W : Addr → Nat → Nat → Option (List S)) : Fns
  | .A => stdA
  | .B => stdB
  | .N => stdN
  | .T => Int.toNat
  | .Q => stdQ
  | .G => stdG
  | .P => stdP
  | .W => W

inductive TD where
  | int (k : IntKind)
  | bool
  | string
  | ptr (e : TypeId)
  | slice (e : TypeId)
  | arr (n : Nat) (e : TypeId)
  | struct (fs : List (Nat × TypeId))
  | map (k e : TypeId)
  | iface
  | func
structure TI where
  size : Nat
  bytes : Nat
  zero : List S
  d : TD
  ms : List (String × FuncId)   -- methods that are called through an interface, of a pointer type
  cmp : Bool                    -- holds no interface
inductive Tree (α : Type) where
  | leaf
  | node (k : Nat) (v : α) (l r : Tree α)
def Tree.get {α : Type} : Tree α → Nat → Option α
  | .leaf, _ => none
  | .node k v l r, n => if n = k then some v else if n < k then l.get n else r.get n
def TI.agg (i : TI) : Bool := match i.d with
  | .arr .. => true
  | .struct .. => true
  | _ => false

def getT (t : List S) (i : Nat) : S := List.rec (motive := fun _ => Nat → S) (fun _ => .un) (fun x _ ih n => Nat.rec (motive := fun _ => S) x (fun k _ => ih k) n) t i
theorem getT_nil (i : Nat) : getT [] i = .un := rfl
theorem getT_zero (x : S) (r : List S) : getT (x :: r) 0 = x := rfl
theorem getT_succ (x : S) (r : List S) (n : Nat) : getT (x :: r) (n + 1) = getT r n := rfl
def setT : List S → Nat → S → List S
  | [], _, _ => []
  | _ :: r, 0, v => v :: r
  | x :: r, n + 1, v => x :: setT r n v
def getO (t : List Ob) (i : Nat) : Ob := List.rec (motive := fun _ => Nat → Ob) (fun _ => .dead) (fun x _ ih n => Nat.rec (motive := fun _ => Ob) x (fun k _ => ih k) n) t i
theorem getO_nil (i : Nat) : getO [] i = .dead := rfl
theorem getO_zero (x : Ob) (r : List Ob) : getO (x :: r) 0 = x := rfl
theorem getO_succ (x : Ob) (r : List Ob) (n : Nat) : getO (x :: r) (n + 1) = getO r n := rfl
def setO : List Ob → Nat → Ob → List Ob
  | [], _, _ => []
  | _ :: r, 0, v => v :: r
  | x :: r, n + 1, v => x :: setO r n v
def headL (t : List S) (n : Nat) : Option (List S) := List.rec (motive := fun _ => Nat → Option (List S)) (fun n => Nat.rec (motive := fun _ => Option (List S)) (some []) (fun _ _ => none) n) (fun x _ ih n => Nat.rec (motive := fun _ => Option (List S)) (some []) (fun k _ => Option.rec (motive := fun _ => Option (List S)) none (fun y => some (x :: y)) (ih k)) n) t n
theorem headL_zero (t : List S) : headL t 0 = some [] := by cases t <;> rfl
theorem headL_nil (n : Nat) : headL [] (n + 1) = none := rfl
theorem headL_cons (x : S) (r : List S) (n : Nat) : headL (x :: r) (n + 1) = match headL r n with
  | some y => some (x :: y)
  | none => none := by
  show Option.rec (motive := fun _ => Option (List S)) none (fun y => some (x :: y)) (headL r n) = _
  cases headL r n <;> rfl
def dropO (t : List S) (n : Nat) : Option (List S) := List.rec (motive := fun _ => Nat → Option (List S)) (fun n => Nat.rec (motive := fun _ => Option (List S)) (some []) (fun _ _ => none) n) (fun x r ih n => Nat.rec (motive := fun _ => Option (List S)) (some (x :: r)) (fun k _ => ih k) n) t n
theorem dropO_zero (t : List S) : dropO t 0 = some t := by cases t <;> rfl
theorem dropO_nil (n : Nat) : dropO [] (n + 1) = none := rfl
theorem dropO_cons (x : S) (r : List S) (n : Nat) : dropO (x :: r) (n + 1) = dropO r n := rfl
def subL (t : List S) (o n : Nat) : Option (List S) := match dropO t o with
  | some r => headL r n
  | none => none
def putH (t vs : List S) : Option (List S) := List.rec (motive := fun _ => List S → Option (List S)) (fun vs => List.rec (motive := fun _ => Option (List S)) (some []) (fun _ _ _ => none) vs) (fun x r ih vs => List.rec (motive := fun _ => Option (List S)) (some (x :: r)) (fun v vs _ => Option.rec (motive := fun _ => Option (List S)) none (fun y => some (v :: y)) (ih vs)) vs) t vs
theorem putH_nil (t : List S) : putH t [] = some t := by cases t <;> rfl
theorem putH_none (v : S) (vs : List S) : putH [] (v :: vs) = none := rfl
theorem putH_cons (x : S) (r : List S) (v : S) (vs : List S) : putH (x :: r) (v :: vs) = match putH r vs with
  | some y => some (v :: y)
  | none => none := by
  show Option.rec (motive := fun _ => Option (List S)) none (fun y => some (v :: y)) (putH r vs) = _
  cases putH r vs <;> rfl
def putL (t : List S) (o : Nat) (vs : List S) : Option (List S) := List.rec (motive := fun _ => Nat → Option (List S)) (fun n => Nat.rec (motive := fun _ => Option (List S)) (putH [] vs) (fun _ _ => none) n) (fun x r ih n => Nat.rec (motive := fun _ => Option (List S)) (putH (x :: r) vs) (fun k _ => Option.rec (motive := fun _ => Option (List S)) none (fun y => some (x :: y)) (ih k)) n) t o
theorem putL_zero (t vs : List S) : putL t 0 vs = putH t vs := by cases t <;> rfl
theorem putL_nil (o : Nat) (vs : List S) : putL [] (o + 1) vs = none := rfl
theorem putL_cons (x : S) (r : List S) (o : Nat) (vs : List S) : putL (x :: r) (o + 1) vs = match putL r o vs with
  | some y => some (x :: y)
  | none => none := by
  show Option.rec (motive := fun _ => Option (List S)) none (fun y => some (x :: y)) (putL r o vs) = _
  cases putL r o vs <;> rfl

def ofV1 : Value → S
  | .bool b => .bl b
  | .int k n => .il k n
  | .string s => .tl s.data.toList
  | .pointer none => .nil
  | v => .raw v
def ofV : Value → S
  | .agg cs => .agg (cs.toList.map ofV1)
  | v => ofV1 v
def evS (t : List S) : Operand → S
  | .tmp i => getT t i
  | .const v => ofV v
  | .global g => .raw (.pointer (some ⟨g, 0, none⟩))
  | .func f => .fn f []
def S.cs : S → List S
  | .agg cs => cs
  | v => [v]
def S.one : S → Bool
  | .agg _ => false
  | .tup _ => false
  | .un => false
  | .junk => false
  | .raw v => (match v with | .agg _ => false | .tuple _ => false | _ => true)
  | _ => true
def ones : List S → Bool
  | [] => true
  | x :: r => (match x.one with | true => ones r | false => false)

theorem castI_ex (n : Nat) : Nonempty {x : Int // x = (n : Int)} := ⟨⟨n, rfl⟩⟩
noncomputable def castI (n : Nat) : Int := (Classical.choice (castI_ex n)).val
theorem castI_eq (n : Nat) : castI n = n := (Classical.choice (castI_ex n)).property
noncomputable def NN.z : NN → Int
  | .l n => Int.ofNat n
  | .v n => castI n
theorem NN.z_eq (n : NN) : n.z = n.val := by cases n with
  | l n => rfl
  | v n => exact castI_eq n
section
variable (F : Fns) (tt : Nat → Option TI)

def addN : NN → NN → NN
  | .l a, .l b => .l (a + b)
  | .l a, .v b => if a = 0 then .v b else .v (F .N .add a b)
  | .v a, .l b => if b = 0 then .v a else .v (F .N .add a b)
  | .v a, .v b => .v (F .N .add a b)
def subN : NN → NN → NN
  | .l a, .l b => .l (a - b)
  | .v a, .l b => if b = 0 then .v a else .v (F .N .sub a b)
  | .l a, .v b => .v (F .N .sub a b)
  | .v a, .v b => .v (F .N .sub a b)
def mulN : NN → Nat → NN
  | .l a, b => .l (a * b)
  | .v a, b => if b = 1 then .v a else .v (F .N .mul a b)
def leN : NN → NN → Bool
  | .l a, .l b => decide (a ≤ b)
  | .l a, .v b => F .B .le (Int.ofNat a) (castI b)
  | .v a, .l b => F .B .le (castI a) (Int.ofNat b)
  | .v a, .v b => F .B .le (castI a) (castI b)
def ltN : NN → NN → Bool
  | .l a, .l b => decide (a < b)
  | .l a, .v b => F .B .lt (Int.ofNat a) (castI b)
  | .v a, .l b => F .B .lt (castI a) (Int.ofNat b)
  | .v a, .v b => F .B .lt (castI a) (castI b)
def leZ (lit : Bool) (z : Int) (n : NN) : Bool := match lit with
  | true => leN F (.l z.toNat) n
  | false => F .B .le z n.z
def ltZ (lit : Bool) (z : Int) (n : NN) : Bool := match lit with
  | true => ltN F (.l z.toNat) n
  | false => F .B .lt z n.z
def NN.int : NN → S
  | .l n => .il .i64 n
  | .v n => .iv .i64 (castI n)
def intS : Bool → IntKind → AO → Int → Int → S
  | true, k, op, a, b => .il k (stdAF op k a b)
  | false, k, op, a, b => .iv k (F .A op k a b)
def tb : Bool → BO → Int → Int → Bool
  | true, op, a, b => stdBF op a b
  | false, op, a, b => F .B op a b
def cmpS : Bool → BO → Int → Int → S
  | true, op, a, b => .bl (stdBF op a b)
  | false, op, a, b => .bv (F .B op a b)
def notS : S → Option S
  | .bl x => some (.bl (!x))
  | .bv x => some (.bv (F .Q .not x x))
  | _ => none
def andS : S → S → Option S
  | .bl true, .bl y => some (.bl y)
  | .bl true, .bv y => some (.bv y)
  | .bl false, .bl _ => some (.bl false)
  | .bl false, .bv _ => some (.bl false)
  | .bv x, .bl true => some (.bv x)
  | .bv _, .bl false => some (.bl false)
  | .bv x, .bv y => some (.bv (F .Q .and x y))
  | _, _ => none
def someK (x : Option S) (K : S → Prop) : Prop := match x with
  | some v => K v
  | none => False
def kindN : IntKind → Nat
  | .i8 => 0
  | .i16 => 1
  | .i32 => 2
  | .i64 => 3
  | .u8 => 4
  | .u16 => 5
  | .u32 => 6
  | .u64 => 7
def sameK (k k' : IntKind) : Bool := Nat.beq (kindN k) (kindN k')
theorem sameK_iff (k k' : IntKind) : sameK k k' = true ↔ k = k' := by cases k <;> cases k' <;> decide
def binI (lit : Bool) (op : BinOp) (k k' : IntKind) (a b : Int) (K : S → Prop) : Prop := match op with
  | .shl => if tb F lit .le 0 b = true then K (intS F lit k .shl a b) else False
  | .shr => if tb F lit .le 0 b = true then K (intS F lit k .shr a b) else False
  | .add => if k = k' then K (intS F lit k .add a b) else False
  | .sub => if k = k' then K (intS F lit k .sub a b) else False
  | .mul => if k = k' then K (intS F lit k .mul a b) else False
  | .and => if k = k' then K (intS F lit k .and a b) else False
  | .or => if k = k' then K (intS F lit k .or a b) else False
  | .xor => if k = k' then K (intS F lit k .xor a b) else False
  | .andNot => if k = k' then K (intS F lit k .andNot a b) else False
  | .quo => if k = k' then if tb F lit .ne b 0 = true then K (intS F lit k .quo a b) else False else False
  | .rem => if k = k' then if tb F lit .ne b 0 = true then K (intS F lit k .rem a b) else False else False
  | .eql => if k = k' then K (cmpS F lit .eq a b) else False
  | .neq => if k = k' then K (cmpS F lit .ne a b) else False
  | .lss => if k = k' then K (cmpS F lit .lt a b) else False
  | .leq => if k = k' then K (cmpS F lit .le a b) else False
  | .gtr => if k = k' then K (cmpS F lit .lt b a) else False
  | .geq => if k = k' then K (cmpS F lit .le b a) else False
def sameI (k k' : IntKind) (A : Prop) : Prop := match sameK k k' with
  | true => A
  | false => False
theorem sameI_eq (k k' : IntKind) (A : Prop) : sameI k k' A = if k = k' then A else False := by
  unfold sameI
  cases h : sameK k k' with
  | true => rw [if_pos ((sameK_iff k k').1 h)]
  | false => rw [if_neg fun he => by rw [(sameK_iff k k').2 he] at h; cases h]
def binF (op : BinOp) : IntKind → IntKind → Int → Int → (S → Prop) → Prop := match op with
  | .add => fun k k' a b K => sameI k k' (K (.il k (stdAF .add k a b)))
  | .sub => fun k k' a b K => sameI k k' (K (.il k (stdAF .sub k a b)))
  | .mul => fun k k' a b K => sameI k k' (K (.il k (stdAF .mul k a b)))
  | .eql => fun k k' a b K => sameI k k' (K (.bl (stdBF .eq a b)))
  | .neq => fun k k' a b K => sameI k k' (K (.bl (stdBF .ne a b)))
  | .lss => fun k k' a b K => sameI k k' (K (.bl (stdBF .lt a b)))
  | .leq => fun k k' a b K => sameI k k' (K (.bl (stdBF .le a b)))
  | .gtr => fun k k' a b K => sameI k k' (K (.bl (stdBF .lt b a)))
  | .geq => fun k k' a b K => sameI k k' (K (.bl (stdBF .le b a)))
  | op => fun k k' a b K => binI F true op k k' a b K
theorem binF_eq (op : BinOp) (k k' : IntKind) (a b : Int) (K : S → Prop) : binF F op k k' a b K = binI F true op k k' a b K := by
  cases op <;> simp only [binF, binI, sameI_eq, intS, cmpS]
def eq1 : TD → S → S → Option S
  | .int _, .il k a, .il k' b => if k = k' then some (.bl (a == b)) else none
  | .int _, .il k a, .iv k' b => if k = k' then some (.bv (F .B .eq a b)) else none
  | .int _, .iv k a, .il k' b => if k = k' then some (.bv (F .B .eq a b)) else none
  | .int _, .iv k a, .iv k' b => if k = k' then some (.bv (F .B .eq a b)) else none
  | .bool, .bl x, .bl y => some (.bl (x == y))
  | .bool, .bl x, .bv y => some (.bv (F .Q .eq x y))
  | .bool, .bv x, .bl y => some (.bv (F .Q .eq x y))
  | .bool, .bv x, .bv y => some (.bv (F .Q .eq x y))
  | .string, .tl x, .tl y => some (.bl (x == y))
  | .ptr _, .nil, .nil => some (.bl true)
  | .ptr _, .nil, .ptr _ _ => some (.bl false)
  | .ptr _, .ptr _ _, .nil => some (.bl false)
  | _, _, _ => none
end
end
end Go.SX

namespace Go.SX
noncomputable section
section
variable (F : Fns) (tt : Nat → Option TI)

def partS (t : TypeId) (cs : List S) (off : Nat) : Option S := match tt t with
  | some ti => match ti.agg with
    | true => (match subL cs off ti.size with
      | some r => some (.agg r)
      | none => none)
    | false => (match subL cs off 1 with
      | some [x] => if x.one = true then some x else none
      | _ => none)
  | none => none
def eqF (rec : TypeId → S → S → Option S) : List (Nat × TypeId) → List S → List S → Option S
  | [], _, _ => some (.bl true)
  | (o, t) :: fs, xs, ys => match partS tt t xs o, partS tt t ys o with
    | some a, some b => (match rec t a b with
      | some r => (match eqF rec fs xs ys with
        | some r' => andS F r r'
        | none => none)
      | none => none)
    | _, _ => none
def places (sz : Nat) (e : TypeId) : Nat → Nat → List (Nat × TypeId)
  | 0, _ => []
  | n + 1, o => (o, e) :: places sz e n (o + sz)
def eqT : Nat → TypeId → S → S → Option S
  | 0, _, _, _ => none
  | n + 1, t, x, y => match x, y with
    | .agg xs, .agg ys => (match tt t with
      | some ti => if ti.cmp = true then (match ti.d with
        | .struct fs => eqF F tt (eqT n) fs xs ys
        | .arr m e => (match tt e with
          | some te => eqF F tt (eqT n) (places te.size e m 0) xs ys
          | none => none)
        | _ => none) else none
      | none => none)
    | x, y => (match tt t with
      | some ti => eq1 F ti.d x y
      | none => none)

def isNilSl : Value → Bool
  | .slice none _ _ => true
  | _ => false
def isNilIf : Value → Bool
  | .nilIface => true
  | _ => false
def eqX (t : TypeId) (x y : S) : Option S := match tt t with
  | some ti => (match ti.d, x, y with
    | .slice _, .raw v, .raw u => if isNilSl v && isNilSl u then some (.bl true) else none
    | .slice _, .sli _ _ _ _ _, .raw u => if isNilSl u then some (.bl false) else none
    | .slice _, .raw u, .sli _ _ _ _ _ => if isNilSl u then some (.bl false) else none
    | .slice _, .nsl _ len false false, .raw u => if isNilSl u then some (.bv (F .B .eq len.z 0)) else none
    | .iface, .raw v, .ifc _ _ => if isNilIf v then some (.bl false) else none
    | .iface, .ifc _ _, .raw v => if isNilIf v then some (.bl false) else none
    | _, x, y => eqT F tt 20 t x y)
  | none => none
def binS (op : BinOp) (t : TypeId) (x y : S) (K : S → Prop) : Prop := match x, y with
  | .il k a, .il k' b => binI F true op k k' a b K
  | .il k a, .iv k' b => binI F false op k k' a b K
  | .iv k a, .il k' b => binI F false op k k' a b K
  | .iv k a, .iv k' b => binI F false op k k' a b K
  | .tl a, .tl b => (match op with
    | .eql => K (.bl (a == b))
    | .neq => K (.bl (!(a == b)))
    | .add => if a.length + b.length ≤ 1000000000 then K (.tl (a ++ b)) else False
    | _ => False)
  | x, y => match op with
    | .eql => someK (eqX F tt t x y) K
    | .neq => someK (eqX F tt t x y) fun r => someK (notS F r) K
    | _ => False
def unS (op : UnOp) (x : S) : Option S := match op, x with
  | .not, x => notS F x
  | .neg, .il k n => some (.il k (stdA .sub k 0 n))
  | .neg, .iv k n => some (.iv k (F .A .sub k 0 n))
  | .xor, .il k n => if k.signed = true then none else some (.il k (stdA .xor k k.max n))
  | .xor, .iv k n => if k.signed = true then none else some (.iv k (F .A .xor k k.max n))
  | _, _ => none
def convS (src dst : TypeId) (x : S) : Option S := match tt src, tt dst with
  | some _, some ti => (match ti.d, x with
    | .int k, .il _ n => some (.il k (stdAF .conv k n 0))
    | .int k, .iv _ n => some (.iv k (F .A .conv k n 0))
    | .string, .tl l => some (.tl l)
    | _, _ => none)
  | _, _ => none
def symS : S → Option (Bool × Int)
  | .il _ n => some (true, n)
  | .iv _ n => some (false, n)
  | _ => none
def natS (lit : Bool) (n : Int) : NN := match lit with
  | true => .l n.toNat
  | false => .v (F .T n)
def forkI (z : Int) (K : NN → Prop) : Nat → Nat → Prop
  | 0, _ => False
  | r + 1, k => (match r with
    | 0 => K (.l k)
    | r' + 1 => if F .B .eq z (Int.ofNat k) = true then K (.l k) else forkI z K (Nat.succ r') (Nat.succ k))
def idxS (i : S) (n : NN) (K : NN → Prop) : Prop := match symS i with
  | some (lit, z) => if tb F lit .le 0 z = true then if ltZ F lit z n = true then (match lit, n with
      | false, .l m => (match Nat.ble m 64 with
        | true => forkI F z K m 0
        | false => K (natS F lit z))
      | _, _ => K (natS F lit z)) else False else False
  | none => False
def idxT (i : S) (n : NN) (top : Nat) (K : Nat → Prop) : Prop := match symS i with
  | some (lit, z) => if tb F lit .le 0 z = true then if ltZ F lit z n = true then (match lit with
      | true => K z.toNat
      | false => forkI F z (fun j => K j.val) top 0) else False else False
  | none => False
def idxAddr (t : TypeId) (x i : S) (K : S → Prop) : Prop := match tt t with
  | some ti => (match ti.d, x with
    | .arr n e, .ptr id off => (match tt e with
      | some te => idxS F i (.l n) fun j => K (.ptr id (addN F off (mulN F j te.size)))
      | none => False)
    | .slice e, .sli id off len _ _ => (match tt e with
      | some te => idxS F i len fun j => K (.ptr id (addN F off (mulN F j te.size)))
      | none => False)
    | .slice e, .tsl id len top => (match tt e with
      | some te => idxT F i len top fun j => K (.pel id j te.size 0)
      | none => False)
    | .slice e, .nsl id len _ _ => (match tt e with
      | some te => idxS F i len fun j => K (.pel id j.val te.size 0)
      | none => False)
    | .slice e, .raw v => (match tt e, v with
      | some te, .slice (some ⟨b, o, none⟩) n _ => idxS F i (.v n) fun j => K (.rp ⟨b, o, none⟩ (mulN F j te.size))
      | _, _ => False)
    | .arr n e, .rp a off => (match tt e with
      | some te => idxS F i (.l n) fun j => K (.rp a (addN F off (mulN F j te.size)))
      | none => False)
    | _, _ => False)
  | none => False
def idxVal (t : TypeId) (x i : S) (K : S → Prop) : Prop := match tt t, x with
  | some ti, .agg cs => (match ti.d with
    | .arr n e => (match tt e with
      | some te => idxS F i (.l n) fun j => (match j with
        | .l j => someK (partS tt e cs (j * te.size)) K
        | .v _ => False)
      | none => False)
    | _ => False)
  | some ti, .tl l => (match ti.d with
    | .string => idxS F i (.l l.length) fun j => (match j with
      | .l j => (match l[j]? with
        | some b => K (.il .u8 b.toNat)
        | none => False)
      | .v _ => False)
    | _ => False)
  | _, _ => False
def fieldA (t : TypeId) (x : S) (f : Nat) : Option S := match tt t, x with
  | some ti, .ptr id off => (match ti.d with
    | .struct fs => (match fs[f]? with
      | some (o, ft) => (match tt ft with
        | some te => if te.size = 0 then none else some (.ptr id (addN F off (.l o)))
        | none => none)
      | none => none)
    | _ => none)
  | some ti, .rp a off => (match ti.d with
    | .struct fs => (match fs[f]? with
      | some (o, ft) => (match tt ft with
        | some te => if te.size = 0 then none else some (.rp a (addN F off (.l o)))
        | none => none)
      | none => none)
    | _ => none)
  | some ti, .pel id i sz off => (match ti.d with
    | .struct fs => (match fs[f]? with
      | some (o, ft) => (match tt ft with
        | some te => if te.size = 0 then none else some (.pel id i sz (off + o))
        | none => none)
      | none => none)
    | _ => none)
  | _, _ => none
def fieldV (t : TypeId) (x : S) (f : Nat) : Option S := match tt t, x with
  | some ti, .agg cs => (match ti.d with
    | .struct fs => (match fs[f]? with
      | some (o, ft) => partS tt ft cs o
      | none => none)
    | _ => none)
  | _, _ => none
def fillS (place : Nat → Option (Nat × Nat)) : List S → List (Nat × S) → Option (List S)
  | cs, [] => some cs
  | cs, (i, v) :: r => match place i with
    | some (o, sz) => if v.cs.length = sz then (match ones v.cs with
      | true => (match putL cs o v.cs with
        | some cs' => fillS place cs' r
        | none => none)
      | false => none) else none
    | none => none
def fplace (fs : List (Nat × TypeId)) (i : Nat) : Option (Nat × Nat) := match fs[i]? with
  | some (o, t) => (match tt t with
    | some ti => some (o, ti.size)
    | none => none)
  | none => none
def allT : List (Nat × TypeId) → Bool
  | [] => true
  | f :: fs => match tt f.2 with
    | some _ => allT fs
    | none => false
def buildV (t : TypeId) (ps : List (Nat × S)) : Option S := match tt t with
  | some ti => (match ti.d with
    | .struct fs => (match allT tt fs, fillS (fplace tt fs) ti.zero ps with
      | true, some cs => some (.agg cs)
      | _, _ => none)
    | .arr _ e => (match tt e with
      | some te => (match fillS (fun i => some (i * te.size, te.size)) ti.zero ps with
        | some cs => some (.agg cs)
        | none => none)
      | none => none)
    | _ => none)
  | none => none
def reps (z : List S) : Nat → List S
  | 0 => []
  | n + 1 => z ++ reps z n
def buildSl (t : TypeId) (len : Nat) (ps : List (Nat × S)) : Option (TypeId × Nat × List S) := match tt t with
  | some ti => (match ti.d with
    | .slice e => (match tt e with
      | some te => if len * (te.size + 1) ≤ 16777216 then (match fillS (fun i => some (i * te.size, te.size)) (reps te.zero len) ps with
        | some cs => some (e, te.size, cs)
        | none => none) else none
      | none => none)
    | _ => none)
  | none => none
def makeSl (t : TypeId) (n : Nat) : Option (TypeId × Nat × List S) := match tt t with
  | some ti => (match ti.d with
    | .slice e => (match tt e with
      | some te => (match Nat.ble (n * (te.size + 1)) 16777216, Nat.ble (n * te.bytes) 140737488355328, Nat.ble 1 te.size with
        | true, true, true => some (e, te.size, reps te.zero n)
        | _, _, _ => none)
      | none => none)
    | _ => none)
  | none => none

def cellsOf (o : Ob) : List S := match o with
  | .cells _ cs => cs
  | .row _ _ _ cs => cs
  | .nrow _ _ _ => []
  | .rowT _ _ _ _ => []
  | .opt _ _ _ => []
  | .win cs => cs
  | .nwin _ _ => []
  | .mapo _ _ => []
  | .orc _ => []
  | .dead => []
def litOb : Ob → Bool
  | .cells _ _ => true
  | .row _ _ (.l _) _ => true
  | _ => false
def getC (o : Ob) (off : NN) (n : Nat) : Option (List S) := match litOb o, off with
  | true, .l k => subL (cellsOf o) k n
  | _, off => F .G (cellsOf o) off.val n
def getE (o : Ob) (i sz off n : Nat) : Option (List S) := match o with
  | .nrow _ ks xs => (match Nat.beq ks.length sz, Nat.ble (off + n) sz with
    | true, true => some (elC xs i ((ks.drop off).take n) off)
    | _, _ => none)
  | .rowT _ sz' _ cs => (match Nat.beq sz' sz, Nat.ble (off + n) sz with
    | true, true => subL cs (i * sz + off) n
    | _, _ => none)
  | .nwin ks xs => (match Nat.beq ks.length sz, Nat.ble (off + n) sz with
    | true, true => some (elC xs i ((ks.drop off).take n) off)
    | _, _ => none)
  | _ => none
def loadS (t : TypeId) (a : S) (h : List Ob) : Option S := match a with
  | .pel id i sz off => (match tt t with
    | some ti => (match ti.agg with
      | true => (match getE (getO h id) i sz off ti.size with
        | some r => some (.agg r)
        | none => none)
      | false => (match getE (getO h id) i sz off 1 with
        | some [x] => if x.one = true then some x else none
        | _ => none))
    | none => none)
  | .ptr id off => (match tt t with
    | some ti => (match ti.agg with
      | true => (match getC F (getO h id) off ti.size with
        | some r => some (.agg r)
        | none => none)
      | false => (match getC F (getO h id) off 1 with
        | some [x] => if x.one = true then some x else none
        | _ => none))
    | none => none)
  | .rp a off => (match tt t with
    | some ti => (match ti.agg with
      | true => (match F .W a off.val ti.size with
        | some r => some (.agg r)
        | none => none)
      | false => (match F .W a off.val 1 with
        | some [x] => if x.one = true then some x else none
        | _ => none))
    | none => none)
  | _ => none
def putOb : Ob → Nat → List S → Option Ob
  | .cells T cs, o, vs => (match putL cs o vs with
    | some r => some (.cells T r)
    | none => none)
  | .row T sz (.l n) cs, o, vs => (match putL cs o vs with
    | some r => some (.row T sz (.l n) r)
    | none => none)
  | _, _, _ => none
def numS : Kd → S → Option Int
  | .i k, .il k' n => if k = k' then some n else none
  | .i k, .iv k' n => if k = k' then some n else none
  | .b, .bl x => some (b2i x)
  | .b, .bv x => some (b2i x)
  | _, _ => none
def putE (xs : List (List Int)) (i : Nat) : List Kd → Nat → List S → Option (List (List Int))
  | _, _, [] => some xs
  | ks, j, v :: vs => (match ks[j]? with
    | some k => (match numS k v with
      | some n => putE (setI xs i j n) i ks (Nat.succ j) vs
      | none => none)
    | none => none)
def storeS (t : TypeId) (a v : S) (h : List Ob) : Option (List Ob) := match a with
  | .pel id i sz off => (match tt t with
    | some ti => if v.cs.length = ti.size then (match ones v.cs, getO h id with
      | true, .nrow T ks xs => (match Nat.beq ks.length sz, putE xs i ks off v.cs with
        | true, some xs' => some (setO h id (.nrow T ks xs'))
        | _, _ => none)
      | _, _ => none) else none
    | none => none)
  | .ptr id (.l off) => (match tt t with
    | some ti => if v.cs.length = ti.size then (match ones v.cs with
      | true => (match putOb (getO h id) off v.cs with
        | some o => some (setO h id o)
        | none => none)
      | false => none) else none
    | none => none)
  | _ => none
def zS (l : NN) (z : Bool) : Bool := match l with
  | .l 0 => z
  | _ => true
def boundS (v : Option S) (d top : NN) (K : NN → Prop) : Prop := match v with
  | none => K d
  | some s => (match symS s with
    | some (lit, z) => if tb F lit .le 0 z = true then if leZ F lit z top = true then K (natS F lit z) else False else False
    | none => False)
def topS (c : Cap) (len : NN) : NN := match c with
  | .lit n => n
  | .rest _ => len
def capS (c : Cap) (l : NN) : Cap := match c with
  | .lit n => .lit (subN F n l)
  | .rest k => .rest (addN F k l)
def sliceS (t : TypeId) (x : S) (lo hi mx : Option S) (K : S → Prop) : Prop := match tt t with
  | some ti => (match ti.d, x, mx with
    | .slice e, .sli id off len c z, none => (match tt e with
      | some te => boundS F hi len (topS c len) fun h => boundS F lo (.l 0) h fun l => K (.sli id (addN F off (mulN F l te.size)) (subN F h l) (capS F c l) (zS l z))
      | none => False)
    | .slice e, .sli id off len c z, some m => (match tt e with
      | some te => boundS F (some m) len (topS c len) fun m => boundS F hi len m fun h => boundS F lo (.l 0) h fun l => (match hi with
        | none => False
        | some _ => K (.sli id (addN F off (mulN F l te.size)) (subN F h l) (.lit (subN F m l)) (zS l z)))
      | none => False)
    | .slice e, .raw v, none => (match v with
      | .slice (some a) n c => (match tt e, lo with
        | some _, none => if leN F (.v n) (.v c) = true then boundS F hi (.v n) (.v n) fun h => K (.raw (.slice (some a) h.val c)) else False
        | _, _ => False)
      | .slice none 0 0 => (match tt e with
        | some _ => boundS F hi (.l 0) (.l 0) fun h => boundS F lo (.l 0) h fun _ => K (.raw (.slice none 0 0))
        | none => False)
      | _ => False)
    | .slice e, .raw v, some m => (match v with
      | .slice none 0 0 => (match tt e with
        | some _ => boundS F (some m) (.l 0) (.l 0) fun m => boundS F hi (.l 0) m fun h => boundS F lo (.l 0) h fun _ => (match hi with
          | none => False
          | some _ => K (.raw (.slice none 0 0)))
        | none => False)
      | _ => False)
    | .string, .tl s, none => boundS F hi (.l s.length) (.l s.length) fun h => boundS F lo (.l 0) h fun l => (match l, h with
      | .l l, .l h => K (.tl ((s.take h).drop l))
      | _, _ => False)
    | .arr n e, .ptr id off, none => (match tt e with
      | some te => if n ≤ 16777216 then boundS F hi (.l n) (.l n) fun h => boundS F lo (.l 0) h fun l => K (.sli id (addN F off (mulN F l te.size)) (subN F h l) (.lit (subN F (.l n) l)) (zS l false)) else False
      | _ => False)
    | .slice e, .nsl id len _ _, none => (match tt e, lo with
      | some _, none => boundS F hi len len fun h => K (.nsl id h true true)
      | _, _ => False)
    | .slice e, .nsl _ len _ _, some m => (match tt e with
      | some _ => boundS F (some m) len (.l 0) fun m => boundS F hi len m fun h => boundS F lo (.l 0) h fun _ => (match hi with
        | none => False
        | some _ => K .zsl)
      | none => False)
    | _, _, _ => False)
  | none => False
def lenS (d : TD) (x : S) : Option NN := match d, x with
  | .slice _, .sli _ _ len _ _ => some len
  | .slice _, .nsl _ len _ _ => some len
  | .slice _, .zsl => some (.l 0)
  | .slice _, .tsl _ n _ => some n
  | .slice _, .raw v => (match v with
    | .slice none 0 0 => some (.l 0)
    | .slice (some _) n _ => some (.v n)
    | _ => none)
  | .string, .tl x => some (.l x.length)
  | _, _ => none
def isConstNil : Operand → Bool
  | .const v => (match v with
    | .nilIface => true
    | _ => false)
  | _ => false

def mmS (op : AO) (x y : S) (K : S → Prop) : Prop := match x, y with
  | .il k a, .il _ b => K (intS F true k op a b)
  | .iv k a, .il _ b => K (intS F false k op a b)
  | .il k a, .iv _ b => K (intS F false k op a b)
  | .iv k a, .iv _ b => K (intS F false k op a b)
  | _, _ => False
def opS (o : Op) (ev : Operand → S) (h : List Ob) (K : S → List Ob → Prop) : Prop := match o with
  | .move x => K (ev x) h
  | .assign x => K (ev x) h
  | .pick c a b => (match ev c with
    | .bl true => K (ev a) h
    | .bl false => K (ev b) h
    | .bv x => if x = true then K (ev a) h else K (ev b) h
    | _ => False)
  | .alloc e => (match tt e with
    | some ti => K (.ptr h.length (.l 0)) (h ++ [.cells e ti.zero])
    | none => False)
  | .box e x => (match ones (ev x).cs with
    | true => K (.ptr h.length (.l 0)) (h ++ [.cells e (ev x).cs])
    | false => False)
  | .build t ps => someK (buildV tt t (ps.toList.map fun x => (x.1, ev x.2))) fun v => K v h
  | .buildSlice t len ps => (match buildSl tt t len (ps.toList.map fun x => (x.1, ev x.2)) with
    | some (e, sz, cs) => (match len with
      | 0 => K .zsl h
      | len + 1 => K (.sli h.length (.l 0) (.l (len + 1)) (.rest (.l 0)) false) (h ++ [.row e sz (.l (len + 1)) cs]))
    | none => False)
  | .makeSlice t l c => (match ev l, ev c with
    | .il _ (.ofNat n), .il _ (.ofNat m) => (match Nat.beq n m, Nat.ble 1 n with
      | true, true => (match makeSl tt t n with
        | some (e, sz, cs) => K (.sli h.length (.l 0) (.l n) (.rest (.l 0)) false) (h ++ [.row e sz (.l n) cs])
        | none => False)
      | _, _ => False)
    | _, _ => False)
  | .load t a => someK (loadS F tt t (ev a) h) fun v => K v h
  | .store t a x => (match storeS tt t (ev a) (ev x) h with
    | some h' => K .un h'
    | none => False)
  | .nilCheck x => (match ev x with
    | .ptr id off => K (.ptr id off) h
    | .pel id i sz off => K (.pel id i sz off) h
    | .rp a off => K (.rp a off) h
    | .fn f cs => K (.fn f cs) h
    | .bm f cs => K (.bm f cs) h
    | .ifc t v => K (.ifc t v) h
    | _ => False)
  | .binOp op t x y _ => (match isConstNil x || isConstNil y, ev x, ev y with
    | true, .raw v, .raw u => (match tt t with
      | some ti => (match ti.d, isNilIf v && isNilIf u, op with
        | .iface, true, .eql => K (.bl true) h
        | .iface, true, .neq => K (.bl false) h
        | .slice _, false, op => binS F tt op t (.raw v) (.raw u) fun v => K v h
        | _, _, _ => False)
      | none => False)
    | _, x, y => binS F tt op t x y fun v => K v h)
  | .unOp op _ x => someK (unS F op (ev x)) fun v => K v h
  | .convert a b x => someK (convS F tt a b (ev x)) fun v => K v h
  | .makeInterface t x => (match tt t with
    | some ti => (match ti.d with
      | .iface => False
      | _ => (match (ev x).one with
        | true => K (.ifc t (ev x)) h
        | false => False))
    | none => False)
  | .makeFunc f first captured => (match f, first.toList with
    | .func f, [] => K (.fn f (captured.toList.map ev)) h
    | .func f, x :: r => (match captured.toList with
      | [] => K (.bm f ((x :: r).map ev)) h
      | _ => False)
    | _, _ => False)
  | .slice t x lo hi mx => sliceS F tt t (ev x) (lo.map ev) (hi.map ev) (mx.map ev) fun v => K v h
  | .fieldAddr t x f => someK (fieldA F tt t (ev x) f) fun v => K v h
  | .field t x f => someK (fieldV tt t (ev x) f) fun v => K v h
  | .indexAddr t x i => idxAddr F tt t (ev x) (ev i) fun v => K v h
  | .index t x i => idxVal F tt t (ev x) (ev i) fun v => K v h
  | .extract x i => (match ev x with
    | .tup vs => (match vs[i]? with
      | some v => K v h
      | none => False)
    | _ => False)
  | .call c => (match c.callee, c.args.toList, c.argTypes.toList with
    | .builtin .len, [x], [t] => (match tt t with
      | some ti => (match lenS ti.d (ev x) with
        | some n => K n.int h
        | none => False)
      | none => False)
    | .builtin .min, [x, y], _ => mmS F .min (ev x) (ev y) fun v => K v h
    | .builtin .max, [x, y], _ => mmS F .max (ev x) (ev y) fun v => K v h
    | _, _, _ => False)
  | _ => False
end
end
end Go.SX
