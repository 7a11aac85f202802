/- SX: what each operation does. -/
import Derived.Test.YtbkegflipglioaaGreatSX1
namespace Go.SX
noncomputable section
section
variable (F : Fns) (tt : Nat → Option TI)

def partS (t : TypeId) (cs : List S) (off : Nat) : Option S := match tt t with
  | some ti => match ti.agg with
    | true => (match subL cs off ti.size with
      | some r => some (.agg r)
      | none => none)
    | false => (match subL cs off 1 with
      | some [x] => if x.one = true then some x else none
      | _ => none)
  | none => none
def eqF (rec : TypeId → S → S → Option S) : List (Nat × TypeId) → List S → List S → Option S
  | [], _, _ => some (.bl true)
  | (o, t) :: fs, xs, ys => match partS tt t xs o, partS tt t ys o with
    | some a, some b => (match rec t a b with
      | some r => (match eqF rec fs xs ys with
        | some r' => andS F r r'
        | none => none)
      | none => none)
    | _, _ => none
def places (sz : Nat) (e : TypeId) : Nat → Nat → List (Nat × TypeId)
  | 0, _ => []
  | n + 1, o => (o, e) :: places sz e n (o + sz)
def eqT : Nat → TypeId → S → S → Option S
  | 0, _, _, _ => none
  | n + 1, t, x, y => match x, y with
    | .agg xs, .agg ys => (match tt t with
      | some ti => if ti.cmp = true then (match ti.d with
        | .struct fs => eqF F tt (eqT n) fs xs ys
        | .arr m e => (match tt e with
          | some te => eqF F tt (eqT n) (places te.size e m 0) xs ys
          | none => none)
        | _ => none) else none
      | none => none)
    | x, y => (match tt t with
      | some ti => eq1 F ti.d x y
      | none => none)

/-- x == y, of slices, interfaces and pointers against nil too. -/
def isNilSl : Value → Bool
  | .slice none _ _ => true
  | _ => false
def isNilIf : Value → Bool
  | .nilIface => true
  | _ => false
def eqX (t : TypeId) (x y : S) : Option S := match tt t with
  | some ti => (match ti.d, x, y with
    | .slice _, .raw v, .raw u => if isNilSl v && isNilSl u then some (.bl true) else none
    | .slice _, .sli _ _ _ _ _, .raw u => if isNilSl u then some (.bl false) else none
    | .slice _, .raw u, .sli _ _ _ _ _ => if isNilSl u then some (.bl false) else none
    | .iface, .raw v, .ifc _ _ => if isNilIf v then some (.bl false) else none
    | .iface, .ifc _ _, .raw v => if isNilIf v then some (.bl false) else none
    | _, x, y => eqT F tt 20 t x y)
  | none => none
def binS (op : BinOp) (t : TypeId) (x y : S) (K : S → Prop) : Prop := match x, y with
  | .il k a, .il k' b => binI F true op k k' a b K
  | .il k a, .iv k' b => binI F false op k k' a b K
  | .iv k a, .il k' b => binI F false op k k' a b K
  | .iv k a, .iv k' b => binI F false op k k' a b K
  | .tl a, .tl b => (match op with
    | .eql => K (.bl (a == b))
    | .neq => K (.bl (!(a == b)))
    | .add => if a.length + b.length ≤ 1000000000 then K (.tl (a ++ b)) else False
    | _ => False)
  | x, y => match op with
    | .eql => someK (eqX F tt t x y) K
    | .neq => someK (eqX F tt t x y) fun r => someK (notS F r) K
    | _ => False
def unS (op : UnOp) (x : S) : Option S := match op, x with
  | .not, x => notS F x
  | .neg, .il k n => some (.il k (stdA .sub k 0 n))
  | .neg, .iv k n => some (.iv k (F .A .sub k 0 n))
  | .xor, .il k n => if k.signed = true then none else some (.il k (stdA .xor k k.max n))
  | .xor, .iv k n => if k.signed = true then none else some (.iv k (F .A .xor k k.max n))
  | _, _ => none
def convS (src dst : TypeId) (x : S) : Option S := match tt src, tt dst with
  | some _, some ti => (match ti.d, x with
    | .int k, .il _ n => some (.il k (stdAF .conv k n 0))
    | .int k, .iv _ n => some (.iv k (F .A .conv k n 0))
    | .string, .tl l => some (.tl l)
    | _, _ => none)
  | _, _ => none
def symS : S → Option (Bool × Int)
  | .il _ n => some (true, n)
  | .iv _ n => some (false, n)
  | _ => none
def natS (lit : Bool) (n : Int) : NN := match lit with
  | true => .l n.toNat
  | false => .v (F .T n)
/-- What is not written out is told apart, from k on. -/
def forkI (z : Int) (K : NN → Prop) : Nat → Nat → Prop
  | 0, _ => False
  | r + 1, k => (match r with
    | 0 => K (.l k)
    | r' + 1 => if F .B .eq z (Int.ofNat k) = true then K (.l k) else forkI z K (Nat.succ r') (Nat.succ k))
/-- An index below n. -/
def idxS (i : S) (n : NN) (K : NN → Prop) : Prop := match symS i with
  | some (lit, z) => if tb F lit .le 0 z = true then if ltZ F lit z n = true then (match lit, n with
      | false, .l m => (match Nat.ble m 64 with
        | true => forkI F z K m 0
        | false => K (natS F lit z))
      | _, _ => K (natS F lit z)) else False else False
  | none => False
def idxAddr (t : TypeId) (x i : S) (K : S → Prop) : Prop := match tt t with
  | some ti => (match ti.d, x with
    | .arr n e, .ptr id off => (match tt e with
      | some te => idxS F i (.l n) fun j => K (.ptr id (addN F off (mulN F j te.size)))
      | none => False)
    | .slice e, .sli id off len _ _ => (match tt e with
      | some te => idxS F i len fun j => K (.ptr id (addN F off (mulN F j te.size)))
      | none => False)
    | .slice e, .raw v => (match tt e, v with
      | some te, .slice (some ⟨b, o, none⟩) n _ => idxS F i (.v n) fun j => K (.rp ⟨b, o, none⟩ (mulN F j te.size))
      | _, _ => False)
    | .arr n e, .rp a off => (match tt e with
      | some te => idxS F i (.l n) fun j => K (.rp a (addN F off (mulN F j te.size)))
      | none => False)
    | _, _ => False)
  | none => False
def idxVal (t : TypeId) (x i : S) (K : S → Prop) : Prop := match tt t, x with
  | some ti, .agg cs => (match ti.d with
    | .arr n e => (match tt e with
      | some te => idxS F i (.l n) fun j => (match j with
        | .l j => someK (partS tt e cs (j * te.size)) K
        | .v _ => False)
      | none => False)
    | _ => False)
  | some ti, .tl l => (match ti.d with
    | .string => idxS F i (.l l.length) fun j => (match j with
      | .l j => (match l[j]? with
        | some b => K (.il .u8 b.toNat)
        | none => False)
      | .v _ => False)
    | _ => False)
  | _, _ => False
def fieldA (t : TypeId) (x : S) (f : Nat) : Option S := match tt t, x with
  | some ti, .ptr id off => (match ti.d with
    | .struct fs => (match fs[f]? with
      | some (o, ft) => (match tt ft with
        | some te => if te.size = 0 then none else some (.ptr id (addN F off (.l o)))
        | none => none)
      | none => none)
    | _ => none)
  | some ti, .rp a off => (match ti.d with
    | .struct fs => (match fs[f]? with
      | some (o, ft) => (match tt ft with
        | some te => if te.size = 0 then none else some (.rp a (addN F off (.l o)))
        | none => none)
      | none => none)
    | _ => none)
  | _, _ => none
def fieldV (t : TypeId) (x : S) (f : Nat) : Option S := match tt t, x with
  | some ti, .agg cs => (match ti.d with
    | .struct fs => (match fs[f]? with
      | some (o, ft) => partS tt ft cs o
      | none => none)
    | _ => none)
  | _, _ => none
/-- A composite's parts laid into its cells. -/
def fillS (place : Nat → Option (Nat × Nat)) : List S → List (Nat × S) → Option (List S)
  | cs, [] => some cs
  | cs, (i, v) :: r => match place i with
    | some (o, sz) => if v.cs.length = sz then (match ones v.cs with
      | true => (match putL cs o v.cs with
        | some cs' => fillS place cs' r
        | none => none)
      | false => none) else none
    | none => none
def fplace (fs : List (Nat × TypeId)) (i : Nat) : Option (Nat × Nat) := match fs[i]? with
  | some (o, t) => (match tt t with
    | some ti => some (o, ti.size)
    | none => none)
  | none => none
def allT : List (Nat × TypeId) → Bool
  | [] => true
  | f :: fs => match tt f.2 with
    | some _ => allT fs
    | none => false
def buildV (t : TypeId) (ps : List (Nat × S)) : Option S := match tt t with
  | some ti => (match ti.d with
    | .struct fs => (match allT tt fs, fillS (fplace tt fs) ti.zero ps with
      | true, some cs => some (.agg cs)
      | _, _ => none)
    | .arr _ e => (match tt e with
      | some te => (match fillS (fun i => some (i * te.size, te.size)) ti.zero ps with
        | some cs => some (.agg cs)
        | none => none)
      | none => none)
    | _ => none)
  | none => none
def reps (z : List S) : Nat → List S
  | 0 => []
  | n + 1 => z ++ reps z n
/-- A slice literal: its cells, the element's type. -/
def buildSl (t : TypeId) (len : Nat) (ps : List (Nat × S)) : Option (TypeId × Nat × List S) := match tt t with
  | some ti => (match ti.d with
    | .slice e => (match tt e with
      | some te => if len * (te.size + 1) ≤ 16777216 then (match fillS (fun i => some (i * te.size, te.size)) (reps te.zero len) ps with
        | some cs => some (e, te.size, cs)
        | none => none) else none
      | none => none)
    | _ => none)
  | none => none

/-! Memory. -/
def cellsOf (o : Ob) : List S := match o with
  | .cells _ cs => cs
  | .row _ _ _ cs => cs
  | .win cs => cs
  | .mapo _ _ => []
  | .orc _ => []
  | .dead => []
/-- Are the cells written out? -/
def litOb : Ob → Bool
  | .cells _ _ => true
  | .row _ _ (.l _) _ => true
  | _ => false
def getC (o : Ob) (off : NN) (n : Nat) : Option (List S) := match litOb o, off with
  | true, .l k => subL (cellsOf o) k n
  | _, off => F .G (cellsOf o) off.val n
def loadS (t : TypeId) (a : S) (h : List Ob) : Option S := match a with
  | .ptr id off => (match tt t with
    | some ti => (match ti.agg with
      | true => (match getC F (getO h id) off ti.size with
        | some r => some (.agg r)
        | none => none)
      | false => (match getC F (getO h id) off 1 with
        | some [x] => if x.one = true then some x else none
        | _ => none))
    | none => none)
  | .rp a off => (match tt t with
    | some ti => (match ti.agg with
      | true => (match F .W a off.val ti.size with
        | some r => some (.agg r)
        | none => none)
      | false => (match F .W a off.val 1 with
        | some [x] => if x.one = true then some x else none
        | _ => none))
    | none => none)
  | _ => none
def putOb : Ob → Nat → List S → Option Ob
  | .cells T cs, o, vs => (match putL cs o vs with
    | some r => some (.cells T r)
    | none => none)
  | .row T sz (.l n) cs, o, vs => (match putL cs o vs with
    | some r => some (.row T sz (.l n) r)
    | none => none)
  | _, _, _ => none
def storeS (t : TypeId) (a v : S) (h : List Ob) : Option (List Ob) := match a with
  | .ptr id (.l off) => (match tt t with
    | some ti => if v.cs.length = ti.size then (match ones v.cs with
      | true => (match putOb (getO h id) off v.cs with
        | some o => some (setO h id o)
        | none => none)
      | false => none) else none
    | none => none)
  | _ => none
/-- An address that a slice expression moved is known where room is left. -/
def zS (l : NN) (z : Bool) : Bool := match l with
  | .l 0 => z
  | _ => true
def boundS (v : Option S) (d top : NN) (K : NN → Prop) : Prop := match v with
  | none => K d
  | some s => (match symS s with
    | some (lit, z) => if tb F lit .le 0 z = true then if leZ F lit z top = true then K (natS F lit z) else False else False
    | none => False)
def topS (c : Cap) (len : NN) : NN := match c with
  | .lit n => n
  | .rest _ => len
def capS (c : Cap) (l : NN) : Cap := match c with
  | .lit n => .lit (subN F n l)
  | .rest k => .rest (addN F k l)
def sliceS (t : TypeId) (x : S) (lo hi mx : Option S) (K : S → Prop) : Prop := match tt t with
  | some ti => (match ti.d, x, mx with
    | .slice e, .sli id off len c z, none => (match tt e with
      | some te => boundS F hi len (topS c len) fun h => boundS F lo (.l 0) h fun l => K (.sli id (addN F off (mulN F l te.size)) (subN F h l) (capS F c l) (zS l z))
      | none => False)
    | .slice e, .sli id off len c z, some m => (match tt e with
      | some te => boundS F (some m) len (topS c len) fun m => boundS F hi len m fun h => boundS F lo (.l 0) h fun l => (match hi with
        | none => False
        | some _ => K (.sli id (addN F off (mulN F l te.size)) (subN F h l) (.lit (subN F m l)) (zS l z)))
      | none => False)
    | .slice e, .raw v, none => (match v with
      | .slice (some a) n c => (match tt e, lo with
        | some _, none => if leN F (.v n) (.v c) = true then boundS F hi (.v n) (.v n) fun h => K (.raw (.slice (some a) h.val c)) else False
        | _, _ => False)
      | .slice none 0 0 => (match tt e with
        | some _ => boundS F hi (.l 0) (.l 0) fun h => boundS F lo (.l 0) h fun _ => K (.raw (.slice none 0 0))
        | none => False)
      | _ => False)
    | .slice e, .raw v, some m => (match v with
      | .slice none 0 0 => (match tt e with
        | some _ => boundS F (some m) (.l 0) (.l 0) fun m => boundS F hi (.l 0) m fun h => boundS F lo (.l 0) h fun _ => (match hi with
          | none => False
          | some _ => K (.raw (.slice none 0 0)))
        | none => False)
      | _ => False)
    | .string, .tl s, none => boundS F hi (.l s.length) (.l s.length) fun h => boundS F lo (.l 0) h fun l => (match l, h with
      | .l l, .l h => K (.tl ((s.take h).drop l))
      | _, _ => False)
    | .arr n e, .ptr id off, none => (match tt e with
      | some te => if n ≤ 16777216 then boundS F hi (.l n) (.l n) fun h => boundS F lo (.l 0) h fun l => K (.sli id (addN F off (mulN F l te.size)) (subN F h l) (.lit (subN F (.l n) l)) (zS l false)) else False
      | _ => False)
    | _, _, _ => False)
  | none => False
def lenS (d : TD) (x : S) : Option NN := match d, x with
  | .slice _, .sli _ _ len _ _ => some len
  | .slice _, .raw v => (match v with
    | .slice none 0 0 => some (.l 0)
    | .slice (some _) n _ => some (.v n)
    | _ => none)
  | .string, .tl x => some (.l x.length)
  | _, _ => none
def isConstNil : Operand → Bool
  | .const v => (match v with
    | .nilIface => true
    | _ => false)
  | _ => false

def mmS (op : AO) (x y : S) (K : S → Prop) : Prop := match x, y with
  | .il k a, .il _ b => K (intS F true k op a b)
  | .iv k a, .il _ b => K (intS F false k op a b)
  | .il k a, .iv _ b => K (intS F false k op a b)
  | .iv k a, .iv _ b => K (intS F false k op a b)
  | _, _ => False
/-- What an operation that calls nothing does. -/
def opS (o : Op) (ev : Operand → S) (h : List Ob) (K : S → List Ob → Prop) : Prop := match o with
  | .move x => K (ev x) h
  | .assign x => K (ev x) h
  | .pick c a b => (match ev c with
    | .bl true => K (ev a) h
    | .bl false => K (ev b) h
    | .bv x => if x = true then K (ev a) h else K (ev b) h
    | _ => False)
  | .alloc e => (match tt e with
    | some ti => K (.ptr h.length (.l 0)) (h ++ [.cells e ti.zero])
    | none => False)
  | .box e x => (match ones (ev x).cs with
    | true => K (.ptr h.length (.l 0)) (h ++ [.cells e (ev x).cs])
    | false => False)
  | .build t ps => someK (buildV tt t (ps.toList.map fun x => (x.1, ev x.2))) fun v => K v h
  | .buildSlice t len ps => (match buildSl tt t len (ps.toList.map fun x => (x.1, ev x.2)) with
    | some (e, sz, cs) => K (.sli h.length (.l 0) (.l len) (.rest (.l 0)) false) (h ++ [.row e sz (.l len) cs])
    | none => False)
  | .load t a => someK (loadS F tt t (ev a) h) fun v => K v h
  | .store t a x => (match storeS tt t (ev a) (ev x) h with
    | some h' => K .un h'
    | none => False)
  | .nilCheck x => (match ev x with
    | .ptr id off => K (.ptr id off) h
    | .rp a off => K (.rp a off) h
    | .fn f cs => K (.fn f cs) h
    | .bm f cs => K (.bm f cs) h
    | .ifc t v => K (.ifc t v) h
    | _ => False)
  | .binOp op t x y _ => (match isConstNil x || isConstNil y, ev x, ev y with
    | true, .raw v, .raw u => (match tt t with
      | some ti => (match ti.d, isNilIf v && isNilIf u, op with
        | .iface, true, .eql => K (.bl true) h
        | .iface, true, .neq => K (.bl false) h
        | .slice _, false, op => binS F tt op t (.raw v) (.raw u) fun v => K v h
        | _, _, _ => False)
      | none => False)
    | _, x, y => binS F tt op t x y fun v => K v h)
  | .unOp op _ x => someK (unS F op (ev x)) fun v => K v h
  | .convert a b x => someK (convS F tt a b (ev x)) fun v => K v h
  | .makeInterface t x => (match tt t with
    | some ti => (match ti.d with
      | .iface => False
      | _ => (match (ev x).one with
        | true => K (.ifc t (ev x)) h
        | false => False))
    | none => False)
  | .makeFunc f first captured => (match f, first.toList with
    | .func f, [] => K (.fn f (captured.toList.map ev)) h
    | .func f, x :: r => (match captured.toList with
      | [] => K (.bm f ((x :: r).map ev)) h
      | _ => False)
    | _, _ => False)
  | .slice t x lo hi mx => sliceS F tt t (ev x) (lo.map ev) (hi.map ev) (mx.map ev) fun v => K v h
  | .fieldAddr t x f => someK (fieldA F tt t (ev x) f) fun v => K v h
  | .field t x f => someK (fieldV tt t (ev x) f) fun v => K v h
  | .indexAddr t x i => idxAddr F tt t (ev x) (ev i) fun v => K v h
  | .index t x i => idxVal F tt t (ev x) (ev i) fun v => K v h
  | .extract x i => (match ev x with
    | .tup vs => (match vs[i]? with
      | some v => K v h
      | none => False)
    | _ => False)
  | .call c => (match c.callee, c.args.toList, c.argTypes.toList with
    | .builtin .len, [x], [t] => (match tt t with
      | some ti => (match lenS ti.d (ev x) with
        | some n => K n.int h
        | none => False)
      | none => False)
    | .builtin .min, [x, y], _ => mmS F .min (ev x) (ev y) fun v => K v h
    | .builtin .max, [x, y], _ => mmS F .max (ev x) (ev y) fun v => K v h
    | _, _, _ => False)
  | _ => False
end
end
end Go.SX
