/- SX: symbolic runs. Values with names for blocks in place of addresses; a run of code as a plain function. -/
import Derived.WalkKit
import Derived.WalkLawsBesides
import Derived.KernelRfl
namespace Go.SX
noncomputable section

/-- A number that is written out, or one that is not. -/
inductive NN where
  | l (n : Nat)
  | v (n : Nat)
def NN.val : NN → Nat
  | .l n => n
  | .v n => n
/-- A slice's capacity: a number, or what its block has less k. -/
inductive Cap where
  | lit (n : NN)
  | rest (k : NN)

/-- A value: il, bl, tl are written out; iv, bv, tv are not. -/
inductive S where
  | il (k : IntKind) (n : Int)
  | iv (k : IntKind) (n : Int)
  | bl (x : Bool)
  | bv (x : Bool)
  | tl (x : List UInt8)
  | tv (x : List UInt8)
  | ptr (id : Nat) (off : NN)
  | rp (a : Addr) (off : NN)
  | nil
  | sli (id : Nat) (off len : NN) (c : Cap) (z : Bool)
  | raw (v : Value)
  | fn (f : FuncId) (cap : List S)
  | bm (f : FuncId) (fs : List S)
  | ifc (t : TypeId) (x : S)
  | mp (id : Nat)
  | agg (cs : List S)
  | tup (cs : List S)
  | un
  | junk

structure Env where
  blk : Nat
  base : Nat
  cap : Nat
def Cap.val (e : Env) : Cap → Nat
  | .lit n => n.val
  | .rest k => e.cap - k.val

mutual
/-- v is what s says; names below m. -/
def S.ok (m : Nat) (ν : Nat → Env) : S → Value → Prop
  | .il k n, v => v = .int k n
  | .iv k n, v => v = .int k n
  | .bl x, v => v = .bool x
  | .bv x, v => v = .bool x
  | .tl x, v => v = .string ⟨x.toArray⟩
  | .tv x, v => v = .string ⟨x.toArray⟩
  | .ptr id off, v => id < m ∧ v = .pointer (some ⟨(ν id).blk, (ν id).base + off.val, none⟩)
  | .rp a off, v => v = .pointer (some ⟨a.block, a.off + off.val, none⟩)
  | .nil, v => v = .pointer none
  | .sli id off len c z, v => id < m ∧ len.val ≤ c.val (ν id) ∧ c.val (ν id) ≤ maxLen ∧ ∃ a, v = .slice (some a) len.val (c.val (ν id)) ∧ ((z = false ∨ c.val (ν id) ≠ 0) → a = ⟨(ν id).blk, (ν id).base + off.val, none⟩)
  | .raw u, v => v = u
  | .fn f cs, v => ∃ vs, v = .func (.func f) #[] vs.toArray ∧ S.oks m ν cs vs
  | .bm f cs, v => ∃ vs, v = .func (.func f) vs.toArray #[] ∧ S.oks m ν cs vs
  | .ifc t x, v => ∃ u, v = .iface t u ∧ x.ok m ν u
  | .mp id, v => id < m ∧ v = .map (some (ν id).blk)
  | .agg cs, v => ∃ vs, v = .agg vs.toArray ∧ S.oks m ν cs vs
  | .tup cs, v => ∃ vs, v = .tuple vs.toArray ∧ S.oks m ν cs vs
  | .un, v => v = undef
  | .junk, _ => True
def S.oks (m : Nat) (ν : Nat → Env) : List S → List Value → Prop
  | [], vs => vs = []
  | c :: cs, vs => ∃ v r, vs = v :: r ∧ c.ok m ν v ∧ S.oks m ν cs r
end
abbrev oks := S.oks

/-- What a value that is not written out is claimed to be: a truth; a number, told anew; a number that is written out; as it stands. -/
inductive OI where
  | b (x : Bool)
  | n (x : Int)
  | l (x : Int)
  | s
/-- What lies in a block. cells: a whole block of ours; row: its first n elements, there may be more behind them; win: cells that are read, of another; sym: cells of ours that are not written out -/
inductive Ob where
  | cells (T : TypeId) (cs : List S)
  | row (T : TypeId) (sz : Nat) (n : NN) (cs : List S)
  | win (cs : List S)
  | mapo (ks vs : List S)
  | orc (l : List OI)
  | dead
structure St where
  t : List S
  h : List Ob

/-! What is not written out goes to these. -/
inductive AO where
  | add | sub | mul | quo | rem | and | or | xor | andNot | shl | shr | conv | min | max
inductive BO where
  | eq | ne | lt | le
inductive NO where
  | add | sub | mul
inductive QO where
  | not | eq | and | or
def stdA : AO → IntKind → Int → Int → Int
  | .add, k, x, y => k.wrap (x + y)
  | .sub, k, x, y => k.wrap (x - y)
  | .mul, k, x, y => k.wrap (x * y)
  | .quo, k, x, y => k.wrap (x.tdiv y)
  | .rem, _, x, y => x.tmod y
  | .and, k, x, y => k.wrap (BitVec.ofInt k.bits x &&& BitVec.ofInt k.bits y).toNat
  | .or, k, x, y => k.wrap (BitVec.ofInt k.bits x ||| BitVec.ofInt k.bits y).toNat
  | .xor, k, x, y => k.wrap (BitVec.ofInt k.bits x ^^^ BitVec.ofInt k.bits y).toNat
  | .andNot, k, x, y => k.wrap (BitVec.ofInt k.bits x &&& ~~~BitVec.ofInt k.bits y).toNat
  | .shl, k, x, y => k.wrap (x * 2 ^ min y.toNat k.bits)
  | .shr, k, x, y => x.fdiv (2 ^ min y.toNat k.bits)
  | .conv, k, x, _ => k.wrap x
  | .min, _, x, y => if y < x then y else x
  | .max, _, x, y => if y > x then y else x
def stdB : BO → Int → Int → Bool
  | .eq, x, y => x == y
  | .ne, x, y => x != y
  | .lt, x, y => decide (x < y)
  | .le, x, y => decide (x ≤ y)
/-- The same, with less reckoning for numbers that are not negative. -/
def maxN : IntKind → Nat
  | .i8 => 127
  | .i16 => 32767
  | .i32 => 2147483647
  | .i64 => 9223372036854775807
  | .u8 => 255
  | .u16 => 65535
  | .u32 => 4294967295
  | .u64 => 18446744073709551615
def fitN (k : IntKind) (n : Nat) (other : Int) : Int := match Nat.ble n (maxN k) with
  | true => .ofNat n
  | false => other
def stdAF (op : AO) (k : IntKind) (x y : Int) : Int := match x, y with
  | .ofNat a, .ofNat b => (match op with
    | .add => fitN k (Nat.add a b) (stdA .add k x y)
    | .sub => (match Nat.ble b a with
      | true => fitN k (Nat.sub a b) (stdA .sub k x y)
      | false => stdA .sub k x y)
    | .mul => fitN k (Nat.mul a b) (stdA .mul k x y)
    | .conv => fitN k a (stdA .conv k x y)
    | .quo => fitN k (Nat.div a b) (stdA .quo k x y)
    | .rem => .ofNat (Nat.mod a b)
    | op => stdA op k x y)
  | _, _ => stdA op k x y
def stdBF (op : BO) (x y : Int) : Bool := match x, y with
  | .ofNat a, .ofNat b => (match op with
    | .eq => Nat.beq a b
    | .ne => (match Nat.beq a b with
      | true => false
      | false => true)
    | .lt => Nat.ble (Nat.succ a) b
    | .le => Nat.ble a b)
  | _, _ => stdB op x y
theorem wrap_fit (k : IntKind) (n : Nat) (h : n ≤ maxN k) : k.wrap (n : Int) = n := by
  cases k <;> simp only [maxN] at h <;> simp [IntKind.wrap, IntKind.bits, IntKind.signed] <;> omega
theorem fitN_eq {k : IntKind} {n : Nat} {z other : Int} (hz : other = k.wrap z) (hn : z = n) : fitN k n other = other := by
  unfold fitN
  split
  · rename_i h
    rw [hz, hn, wrap_fit k n (Nat.le_of_ble_eq_true h)]
    rfl
  · rfl
theorem stdAF_eq (op : AO) (k : IntKind) (x y : Int) : stdAF op k x y = stdA op k x y := by
  unfold stdAF
  split
  · rename_i a b
    split
    · exact fitN_eq rfl rfl
    · split
      · rename_i h
        have := Nat.le_of_ble_eq_true h
        exact fitN_eq rfl (by show (a : Int) - (b : Int) = ((a - b : Nat) : Int); omega)
      · rfl
    · exact fitN_eq rfl rfl
    · exact fitN_eq rfl rfl
    · exact fitN_eq rfl rfl
    · rfl
    · rfl
  · rfl
theorem stdBF_eq (op : BO) (x y : Int) : stdBF op x y = stdB op x y := by
  unfold stdBF
  split
  · rename_i a b
    have he : (Int.ofNat a == Int.ofNat b) = Nat.beq a b := by
      cases h : Nat.beq a b with
      | true => have := Nat.eq_of_beq_eq_true h; subst this; simp
      | false => have := Nat.ne_of_beq_eq_false h; simp; omega
    split
    · exact he.symm
    · simp only [stdB, bne, he]
      cases Nat.beq a b <;> rfl
    · simp only [stdB]
      cases h : Nat.ble (Nat.succ a) b with
      | true => have := Nat.le_of_ble_eq_true h; simp; omega
      | false =>
        have : ¬ Nat.succ a ≤ b := fun hl => by rw [Nat.ble_eq_true_of_le hl] at h; cases h
        simp; omega
    · simp only [stdB]
      cases h : Nat.ble a b with
      | true => have := Nat.le_of_ble_eq_true h; simp; omega
      | false =>
        have : ¬ a ≤ b := fun hl => by rw [Nat.ble_eq_true_of_le hl] at h; cases h
        simp; omega
  · rfl
def stdN : NO → Nat → Nat → Nat
  | .add, x, y => x + y
  | .sub, x, y => x - y
  | .mul, x, y => x * y
def stdQ : QO → Bool → Bool → Bool
  | .not, x, _ => !x
  | .eq, x, y => x == y
  | .and, x, y => x && y
  | .or, x, y => x || y
def stdP (a b : List S) : List S := a ++ b
def stdG (cs : List S) (o n : Nat) : Option (List S) := if o + n ≤ cs.length then some ((cs.drop o).take n) else none

inductive Tag where
  | A | B | N | T | Q | G | P | W
def Tag.Ty : Tag → Type
  | .A => AO → IntKind → Int → Int → Int
  | .B => BO → Int → Int → Bool
  | .N => NO → Nat → Nat → Nat
  | .T => Int → Nat
  | .Q => QO → Bool → Bool → Bool
  | .G => List S → Nat → Nat → Option (List S)
  | .P => List S → List S → List S
  | .W => Addr → Nat → Nat → Option (List S)
def Fns : Type := (t : Tag) → t.Ty
/-- 'W': what is known of the memory that was there at first. -/
def std (W : Addr → Nat → Nat → Option (List S)) : Fns
  | .A => stdA
  | .B => stdB
  | .N => stdN
  | .T => Int.toNat
  | .Q => stdQ
  | .G => stdG
  | .P => stdP
  | .W => W

/-! Types, in a tree. -/
inductive TD where
  | int (k : IntKind)
  | bool
  | string
  | ptr (e : TypeId)
  | slice (e : TypeId)
  | arr (n : Nat) (e : TypeId)
  | struct (fs : List (Nat × TypeId))
  | map (k e : TypeId)
  | iface
  | func
structure TI where
  size : Nat
  bytes : Nat
  zero : List S
  d : TD
  ms : List (String × FuncId)   -- methods that are called through an interface, of a pointer type
  cmp : Bool                    -- holds no interface
inductive Tree (α : Type) where
  | leaf
  | node (k : Nat) (v : α) (l r : Tree α)
def Tree.get {α : Type} : Tree α → Nat → Option α
  | .leaf, _ => none
  | .node k v l r, n => if n = k then some v else if n < k then l.get n else r.get n
def TI.agg (i : TI) : Bool := match i.d with
  | .arr .. => true
  | .struct .. => true
  | _ => false

/-! Lists by hand. -/
def getT (t : List S) (i : Nat) : S := List.rec (motive := fun _ => Nat → S) (fun _ => .un) (fun x _ ih n => Nat.rec (motive := fun _ => S) x (fun k _ => ih k) n) t i
theorem getT_nil (i : Nat) : getT [] i = .un := rfl
theorem getT_zero (x : S) (r : List S) : getT (x :: r) 0 = x := rfl
theorem getT_succ (x : S) (r : List S) (n : Nat) : getT (x :: r) (n + 1) = getT r n := rfl
def setT : List S → Nat → S → List S
  | [], _, _ => []
  | _ :: r, 0, v => v :: r
  | x :: r, n + 1, v => x :: setT r n v
def getO (t : List Ob) (i : Nat) : Ob := List.rec (motive := fun _ => Nat → Ob) (fun _ => .dead) (fun x _ ih n => Nat.rec (motive := fun _ => Ob) x (fun k _ => ih k) n) t i
theorem getO_nil (i : Nat) : getO [] i = .dead := rfl
theorem getO_zero (x : Ob) (r : List Ob) : getO (x :: r) 0 = x := rfl
theorem getO_succ (x : Ob) (r : List Ob) (n : Nat) : getO (x :: r) (n + 1) = getO r n := rfl
def setO : List Ob → Nat → Ob → List Ob
  | [], _, _ => []
  | _ :: r, 0, v => v :: r
  | x :: r, n + 1, v => x :: setO r n v
/-- The first n. -/
def headL (t : List S) (n : Nat) : Option (List S) := List.rec (motive := fun _ => Nat → Option (List S)) (fun n => Nat.rec (motive := fun _ => Option (List S)) (some []) (fun _ _ => none) n) (fun x _ ih n => Nat.rec (motive := fun _ => Option (List S)) (some []) (fun k _ => Option.rec (motive := fun _ => Option (List S)) none (fun y => some (x :: y)) (ih k)) n) t n
theorem headL_zero (t : List S) : headL t 0 = some [] := by cases t <;> rfl
theorem headL_nil (n : Nat) : headL [] (n + 1) = none := rfl
theorem headL_cons (x : S) (r : List S) (n : Nat) : headL (x :: r) (n + 1) = match headL r n with
  | some y => some (x :: y)
  | none => none := by
  show Option.rec (motive := fun _ => Option (List S)) none (fun y => some (x :: y)) (headL r n) = _
  cases headL r n <;> rfl
def dropO (t : List S) (n : Nat) : Option (List S) := List.rec (motive := fun _ => Nat → Option (List S)) (fun n => Nat.rec (motive := fun _ => Option (List S)) (some []) (fun _ _ => none) n) (fun x r ih n => Nat.rec (motive := fun _ => Option (List S)) (some (x :: r)) (fun k _ => ih k) n) t n
theorem dropO_zero (t : List S) : dropO t 0 = some t := by cases t <;> rfl
theorem dropO_nil (n : Nat) : dropO [] (n + 1) = none := rfl
theorem dropO_cons (x : S) (r : List S) (n : Nat) : dropO (x :: r) (n + 1) = dropO r n := rfl
def subL (t : List S) (o n : Nat) : Option (List S) := match dropO t o with
  | some r => headL r n
  | none => none
def putH (t vs : List S) : Option (List S) := List.rec (motive := fun _ => List S → Option (List S)) (fun vs => List.rec (motive := fun _ => Option (List S)) (some []) (fun _ _ _ => none) vs) (fun x r ih vs => List.rec (motive := fun _ => Option (List S)) (some (x :: r)) (fun v vs _ => Option.rec (motive := fun _ => Option (List S)) none (fun y => some (v :: y)) (ih vs)) vs) t vs
theorem putH_nil (t : List S) : putH t [] = some t := by cases t <;> rfl
theorem putH_none (v : S) (vs : List S) : putH [] (v :: vs) = none := rfl
theorem putH_cons (x : S) (r : List S) (v : S) (vs : List S) : putH (x :: r) (v :: vs) = match putH r vs with
  | some y => some (v :: y)
  | none => none := by
  show Option.rec (motive := fun _ => Option (List S)) none (fun y => some (v :: y)) (putH r vs) = _
  cases putH r vs <;> rfl
def putL (t : List S) (o : Nat) (vs : List S) : Option (List S) := List.rec (motive := fun _ => Nat → Option (List S)) (fun n => Nat.rec (motive := fun _ => Option (List S)) (putH [] vs) (fun _ _ => none) n) (fun x r ih n => Nat.rec (motive := fun _ => Option (List S)) (putH (x :: r) vs) (fun k _ => Option.rec (motive := fun _ => Option (List S)) none (fun y => some (x :: y)) (ih k)) n) t o
theorem putL_zero (t vs : List S) : putL t 0 vs = putH t vs := by cases t <;> rfl
theorem putL_nil (o : Nat) (vs : List S) : putL [] (o + 1) vs = none := rfl
theorem putL_cons (x : S) (r : List S) (o : Nat) (vs : List S) : putL (x :: r) (o + 1) vs = match putL r o vs with
  | some y => some (x :: y)
  | none => none := by
  show Option.rec (motive := fun _ => Option (List S)) none (fun y => some (x :: y)) (putL r o vs) = _
  cases putL r o vs <;> rfl

/-- A constant. -/
def ofV1 : Value → S
  | .bool b => .bl b
  | .int k n => .il k n
  | .string s => .tl s.data.toList
  | .pointer none => .nil
  | v => .raw v
def ofV : Value → S
  | .agg cs => .agg (cs.toList.map ofV1)
  | v => ofV1 v
def evS (t : List S) : Operand → S
  | .tmp i => getT t i
  | .const v => ofV v
  | .global g => .raw (.pointer (some ⟨g, 0, none⟩))
  | .func f => .fn f []
def S.cs : S → List S
  | .agg cs => cs
  | v => [v]
def S.one : S → Bool
  | .agg _ => false
  | .tup _ => false
  | .un => false
  | .junk => false
  | .raw v => (match v with | .agg _ => false | .tuple _ => false | _ => true)
  | _ => true
def ones : List S → Bool
  | [] => true
  | x :: r => (match x.one with | true => ones r | false => false)

/-- A length as a number, that is never reckoned. -/
theorem castI_ex (n : Nat) : Nonempty {x : Int // x = (n : Int)} := ⟨⟨n, rfl⟩⟩
noncomputable def castI (n : Nat) : Int := (Classical.choice (castI_ex n)).val
theorem castI_eq (n : Nat) : castI n = n := (Classical.choice (castI_ex n)).property
noncomputable def NN.z : NN → Int
  | .l n => Int.ofNat n
  | .v n => castI n
theorem NN.z_eq (n : NN) : n.z = n.val := by cases n with
  | l n => rfl
  | v n => exact castI_eq n
section
variable (F : Fns) (tt : Nat → Option TI)

def addN : NN → NN → NN
  | .l a, .l b => .l (a + b)
  | .l a, .v b => if a = 0 then .v b else .v (F .N .add a b)
  | .v a, .l b => if b = 0 then .v a else .v (F .N .add a b)
  | .v a, .v b => .v (F .N .add a b)
def subN : NN → NN → NN
  | .l a, .l b => .l (a - b)
  | .v a, .l b => if b = 0 then .v a else .v (F .N .sub a b)
  | .l a, .v b => .v (F .N .sub a b)
  | .v a, .v b => .v (F .N .sub a b)
def mulN : NN → Nat → NN
  | .l a, b => .l (a * b)
  | .v a, b => if b = 1 then .v a else .v (F .N .mul a b)
def leN : NN → NN → Bool
  | .l a, .l b => decide (a ≤ b)
  | .l a, .v b => F .B .le (Int.ofNat a) (castI b)
  | .v a, .l b => F .B .le (castI a) (Int.ofNat b)
  | .v a, .v b => F .B .le (castI a) (castI b)
def ltN : NN → NN → Bool
  | .l a, .l b => decide (a < b)
  | .l a, .v b => F .B .lt (Int.ofNat a) (castI b)
  | .v a, .l b => F .B .lt (castI a) (Int.ofNat b)
  | .v a, .v b => F .B .lt (castI a) (castI b)
def leZ (lit : Bool) (z : Int) (n : NN) : Bool := match lit with
  | true => leN F (.l z.toNat) n
  | false => F .B .le z n.z
def ltZ (lit : Bool) (z : Int) (n : NN) : Bool := match lit with
  | true => ltN F (.l z.toNat) n
  | false => F .B .lt z n.z
def NN.int : NN → S
  | .l n => .il .i64 n
  | .v n => .iv .i64 n
def intS : Bool → IntKind → AO → Int → Int → S
  | true, k, op, a, b => .il k (stdAF op k a b)
  | false, k, op, a, b => .iv k (F .A op k a b)
def tb : Bool → BO → Int → Int → Bool
  | true, op, a, b => stdBF op a b
  | false, op, a, b => F .B op a b
def cmpS : Bool → BO → Int → Int → S
  | true, op, a, b => .bl (stdBF op a b)
  | false, op, a, b => .bv (F .B op a b)
def notS : S → Option S
  | .bl x => some (.bl (!x))
  | .bv x => some (.bv (F .Q .not x x))
  | _ => none
def andS : S → S → Option S
  | .bl true, .bl y => some (.bl y)
  | .bl true, .bv y => some (.bv y)
  | .bl false, .bl _ => some (.bl false)
  | .bl false, .bv _ => some (.bl false)
  | .bv x, .bl true => some (.bv x)
  | .bv _, .bl false => some (.bl false)
  | .bv x, .bv y => some (.bv (F .Q .and x y))
  | _, _ => none
def someK (x : Option S) (K : S → Prop) : Prop := match x with
  | some v => K v
  | none => False
/-- The same kind? -/
def kindN : IntKind → Nat
  | .i8 => 0
  | .i16 => 1
  | .i32 => 2
  | .i64 => 3
  | .u8 => 4
  | .u16 => 5
  | .u32 => 6
  | .u64 => 7
def sameK (k k' : IntKind) : Bool := Nat.beq (kindN k) (kindN k')
theorem sameK_iff (k k' : IntKind) : sameK k k' = true ↔ k = k' := by cases k <;> cases k' <;> decide
/-- Two whole numbers. -/
def binI (lit : Bool) (op : BinOp) (k k' : IntKind) (a b : Int) (K : S → Prop) : Prop := match op with
  | .shl => if tb F lit .le 0 b = true then K (intS F lit k .shl a b) else False
  | .shr => if tb F lit .le 0 b = true then K (intS F lit k .shr a b) else False
  | .add => if k = k' then K (intS F lit k .add a b) else False
  | .sub => if k = k' then K (intS F lit k .sub a b) else False
  | .mul => if k = k' then K (intS F lit k .mul a b) else False
  | .and => if k = k' then K (intS F lit k .and a b) else False
  | .or => if k = k' then K (intS F lit k .or a b) else False
  | .xor => if k = k' then K (intS F lit k .xor a b) else False
  | .andNot => if k = k' then K (intS F lit k .andNot a b) else False
  | .quo => if k = k' then if tb F lit .ne b 0 = true then K (intS F lit k .quo a b) else False else False
  | .rem => if k = k' then if tb F lit .ne b 0 = true then K (intS F lit k .rem a b) else False else False
  | .eql => if k = k' then K (cmpS F lit .eq a b) else False
  | .neq => if k = k' then K (cmpS F lit .ne a b) else False
  | .lss => if k = k' then K (cmpS F lit .lt a b) else False
  | .leq => if k = k' then K (cmpS F lit .le a b) else False
  | .gtr => if k = k' then K (cmpS F lit .lt b a) else False
  | .geq => if k = k' then K (cmpS F lit .le b a) else False
def sameI (k k' : IntKind) (A : Prop) : Prop := match sameK k k' with
  | true => A
  | false => False
theorem sameI_eq (k k' : IntKind) (A : Prop) : sameI k k' A = if k = k' then A else False := by
  unfold sameI
  cases h : sameK k k' with
  | true => rw [if_pos ((sameK_iff k k').1 h)]
  | false => rw [if_neg fun he => by rw [(sameK_iff k k').2 he] at h; cases h]
/-- What each operation does with two numbers that are written out. -/
def binF (op : BinOp) : IntKind → IntKind → Int → Int → (S → Prop) → Prop := match op with
  | .add => fun k k' a b K => sameI k k' (K (.il k (stdAF .add k a b)))
  | .sub => fun k k' a b K => sameI k k' (K (.il k (stdAF .sub k a b)))
  | .mul => fun k k' a b K => sameI k k' (K (.il k (stdAF .mul k a b)))
  | .eql => fun k k' a b K => sameI k k' (K (.bl (stdBF .eq a b)))
  | .neq => fun k k' a b K => sameI k k' (K (.bl (stdBF .ne a b)))
  | .lss => fun k k' a b K => sameI k k' (K (.bl (stdBF .lt a b)))
  | .leq => fun k k' a b K => sameI k k' (K (.bl (stdBF .le a b)))
  | .gtr => fun k k' a b K => sameI k k' (K (.bl (stdBF .lt b a)))
  | .geq => fun k k' a b K => sameI k k' (K (.bl (stdBF .le b a)))
  | op => fun k k' a b K => binI F true op k k' a b K
theorem binF_eq (op : BinOp) (k k' : IntKind) (a b : Int) (K : S → Prop) : binF F op k k' a b K = binI F true op k k' a b K := by
  cases op <;> simp only [binF, binI, sameI_eq, intS, cmpS]
/-- Are they the same? One cell each. -/
def eq1 : TD → S → S → Option S
  | .int _, .il k a, .il k' b => if k = k' then some (.bl (a == b)) else none
  | .int _, .il k a, .iv k' b => if k = k' then some (.bv (F .B .eq a b)) else none
  | .int _, .iv k a, .il k' b => if k = k' then some (.bv (F .B .eq a b)) else none
  | .int _, .iv k a, .iv k' b => if k = k' then some (.bv (F .B .eq a b)) else none
  | .bool, .bl x, .bl y => some (.bl (x == y))
  | .bool, .bl x, .bv y => some (.bv (F .Q .eq x y))
  | .bool, .bv x, .bl y => some (.bv (F .Q .eq x y))
  | .bool, .bv x, .bv y => some (.bv (F .Q .eq x y))
  | .string, .tl x, .tl y => some (.bl (x == y))
  | .ptr _, .nil, .nil => some (.bl true)
  | .ptr _, .nil, .ptr _ _ => some (.bl false)
  | .ptr _, .ptr _ _, .nil => some (.bl false)
  | _, _, _ => none
end
end
end Go.SX
