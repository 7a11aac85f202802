/- SX: SX3 to SX3. -/
import Derived.Test.YtbkegflipglioaaGreatSX2
namespace Go.SX
noncomputable section
abbrev CallT := FuncId → List S → List Ob → (S → List Ob → Prop) → Prop
abbrev RunT := Fns → (Nat → Option TI) → CallT → List S → List Ob → (S → List Ob → Prop) → Prop
structure CO where
  dst : Option Tmp
  run : RunT
  guard : Option (Option Tmp × Bool)
inductive DStep where
  | load (i : Nat) (o : CO) (t : TypeId) (a : Operand)
  | take (i : Nat) (o : CO)
  | one (i : Nat) (o : CO) (keep : List Nat)
inductive DT where
  | nil
  | load (i : Nat) (o : CO) (t : TypeId) (a : Operand) (r : DT)
  | take (i : Nat) (o : CO) (r : DT)
  | one (i : Nat) (o : CO) (keep : List Nat) (r : DT)
  | fork (a b : DT)
def DT.depth : DT → Nat
  | .nil => 0
  | .load _ _ _ _ r => r.depth + 1
  | .take _ _ r => r.depth + 1
  | .one _ _ _ r => r.depth + 1
  | .fork a _ => a.depth
inductive Cd where
  | skip
  | reg (ops : List CO)
  | draw (ps : List DStep)
  | drawF (p : DT)
  | seq (a b : Cd)
  | cond (c : Operand) (a b : Cd)
  | block (id : Nat) (a : Cd)
  | loop (a : Cd)
  | exit (id : Nat)
  | goto (l : Nat)
  | ret
  | scope (a : Cd)
  | bad

inductive X where
  | normal
  | exit (id : Nat)
  | goto (l : Nat)
  | ret
structure FI where
  ntmps : Nat
  res : List ResultVar
  body : Cd
section
variable (F : Fns) (tt : Nat → Option TI)

def newsS (sz : Nat) (y : S) (h : List Ob) : Option (NN × List S) := match y with
  | .sli id off len _ false => (match getC F (getO h id) off (mulN F len sz).val with
    | some r => (match ones r with
      | true => some (len, r)
      | false => none)
    | none => none)
  | .raw v => (match v with
    | .slice none 0 0 => some (.l 0, [])
    | .slice (some ⟨b, o, none⟩) n _ => (match F .W ⟨b, o, none⟩ 0 (mulN F (.v n) sz).val with
      | some r => (match ones r with
        | true => some (.v n, r)
        | false => none)
      | none => none)
    | _ => none)
  | _ => none
def litN : NN → Bool
  | .l _ => true
  | .v _ => false
def catS (lit : Bool) (a b : List S) : List S := match lit with
  | true => a ++ b
  | false => F .P a b
def eqN : NN → NN → Bool
  | .l a, .l b => a == b
  | a, b => F .B .eq a.z b.z
def cap0 : NN → Cap → Bool
  | .l 0, .lit (.l 0) => true
  | _, _ => false
def numsK : List Kd → List S → Option (List Int × List S)
  | [], cs => some ([], cs)
  | k :: ks, c :: cs => (match numS k c with
    | some n => (match numsK ks cs with
      | some (r, q) => some (n :: r, q)
      | none => none)
    | none => none)
  | _ :: _, [] => none
def parseR (ks : List Kd) : Nat → List S → Option (List (List Int))
  | 0, [] => some []
  | 0, _ :: _ => none
  | n + 1, cs => (match numsK ks cs with
    | some (r, q) => (match parseR ks n q with
      | some l => some (r :: l)
      | none => none)
    | none => none)
def viewR (len : NN) (p : Bool) (ys : List (List Int)) : List (List Int) := match p with
  | false => ys
  | true => takeR len.val ys
def appO (e : TypeId) (sz bytes : Nat) (x : S) (ks : List Kd) (xs : List (List Int)) (h : List Ob) (K : S → List Ob → Prop) : Prop := match Nat.beq ks.length sz with
  | true => if leN F (mulN F (.v (lenR xs)) (bytes + 1)) (.l 140737488355328) = true then (match x with
    | .raw v => (match v with
      | .slice none 0 0 => K (.nsl h.length (.v (lenR xs)) false false) (h ++ [.nrow e ks xs])
      | _ => False)
    | .zsl => K (.nsl h.length (.v (lenR xs)) false true) (h ++ [.nrow e ks xs])
    | _ => False) else False
  | false => False
def appR (e : TypeId) (sz bytes : Nat) (id : Nat) (p z : Bool) (m : NN) (news : List S) (h : List Ob) (K : S → List Ob → Prop) : Prop := match p, z, m, getO h id with
  | false, false, .l (m + 1), .nrow T ks xs => (match Nat.beq T e, Nat.beq ks.length sz, parseR ks (m + 1) news with
    | true, true, some ys => if leN F (mulN F (.v (lenR (apI xs ys))) (bytes + 1)) (.l 140737488355328) = true then K (.nsl h.length (.v (lenR (apI xs ys))) false false) (setO h id .dead ++ [.nrow T ks (apI xs ys)]) else False
    | _, _, _ => False)
  | _, _, _, _ => False
def appS (t : TypeId) (x y : S) (h : List Ob) (K : S → List Ob → Prop) : Prop := match tt t with
  | some ti => (match ti.d with
    | .slice e => (match tt e with
      | some te => if te.size = 0 then False else (match y with
        | .nsl yid ylen p _ => (match getO h yid with
          | .nrow _ ks ys => appO F e te.size te.bytes x ks (viewR ylen p ys) h K
          | .nwin ks ys => appO F e te.size te.bytes x ks (viewR ylen p ys) h K
          | _ => False)
        | y => (match newsS F te.size y h with
        | some (m, news) => (match x with
          | .nsl id _ p z => appR F e te.size te.bytes id p z m news h K
          | .zsl => if eqN F m (.l 0) = true then K x h else
                if leN F (mulN F m (te.bytes + 1)) (.l 140737488355328) = true then K (.sli h.length (.l 0) m (.rest (.l 0)) false) (h ++ [.row e te.size m news]) else False
          | .raw v => (match v with
            | .slice none 0 0 => if eqN F m (.l 0) = true then K x h else
                if leN F (mulN F m (te.bytes + 1)) (.l 140737488355328) = true then K (.sli h.length (.l 0) m (.rest (.l 0)) false) (h ++ [.row e te.size m news]) else False
            | _ => False)
          | .sli id off len c z => if eqN F m (.l 0) = true then K x h else (match cap0 len c with
            | true => if leN F (mulN F m (te.bytes + 1)) (.l 140737488355328) = true then K (.sli h.length (.l 0) m (.rest (.l 0)) false) (h ++ [.row e te.size m news]) else False
            | false => (match off, c, z, getO h id with
            | .l 0, .rest (.l 0), false, .row T sz n cs => if T = e then if sz = te.size then if eqN F n len = true then
                if leN F (mulN F (addN F n m) (te.bytes + 1)) (.l 140737488355328) = true then
                  K (.sli h.length (.l 0) (addN F n m) (.rest (.l 0)) false) (setO h id .dead ++ [.row e sz (addN F n m) (catS F (litN n && litN m) cs news)])
                else False else False else False else False
            | _, _, _, _ => False))
          | _ => False)
        | none => False))
      | none => False)
    | _ => False)
  | none => False

def flatT (t : TypeId) : Bool := match tt t with
  | some u => (match u.d with
    | .int _ => true
    | .bool => true
    | .string => true
    | _ => false)
  | none => false
def flatF (cs : List S) : List (Nat × TypeId) → Bool
  | [] => true
  | (o, t) :: r => flatT tt t && ((partS tt t cs o).isSome && flatF cs r)
def keyOk (kt : TypeId) (k : S) : Bool := match tt kt, k with
  | some ti, .agg cs => (match ti.d with
    | .struct fs => flatF tt cs fs
    | _ => false)
  | some ti, .il _ _ => (match ti.d with
    | .int _ => true
    | _ => false)
  | _, _ => false
def findS (kt : TypeId) (k : S) : List S → Nat → Option (Option Nat)
  | [], _ => some none
  | x :: r, i => match eqX F tt kt k x with
    | some (.bl true) => some (some i)
    | some (.bl false) => findS kt k r (i + 1)
    | _ => none
def mapOf (x : S) (h : List Ob) : Option (Nat × List S × List S) := match x with
  | .mp id => (match getO h id with
    | .mapo ks vs => some (id, ks, vs)
    | _ => none)
  | _ => none
def mapUpdS (t : TypeId) (m k v : S) (h : List Ob) : Option (List Ob) := match tt t with
  | some ti => (match ti.d, mapOf m h with
    | .map kt _, some (id, ks, vs) => if keyOk tt kt k = true then (match findS F tt kt k ks 0 with
      | some none => some (setO h id (.mapo (ks ++ [k]) (vs ++ [v])))
      | _ => none) else none
    | _, _ => none)
  | none => none
def zeroS (te : TI) : S := match te.agg with
  | true => .agg te.zero
  | false => getT te.zero 0
def lookS (t : TypeId) (m k : S) (h : List Ob) : Option (S × Bool) := match tt t with
  | some ti => (match ti.d, mapOf m h with
    | .map kt et, some (_, ks, vs) => if keyOk tt kt k = true then (match findS F tt kt k ks 0 with
      | some (some i) => some (getT vs i, true)
      | some none => (match tt et with
        | some te => some (zeroS te, false)
        | none => none)
      | none => none) else none
    | _, _ => none)
  | none => none
def lookF (ty : TypeId) (m : S) (k0 : IntKind) (z : Int) (h : List Ob) (K : S → Bool → Prop) (te : TI) : List S → Prop
  | [] => K (zeroS te) false
  | x :: r => (match x with
    | .il k1 a => (match (if k0 = k1 then true else false) with
      | true => if F .B .eq z a = true then (match lookS F tt ty m (.il k0 a) h with
          | some (v, b) => K v b
          | none => False) else lookF ty m k0 z h K te r
      | false => False)
    | _ => False)
def lookK (ty : TypeId) (m k : S) (h : List Ob) (K : S → Bool → Prop) : Prop := match k with
  | .iv k0 z => (match tt ty with
    | some ti => (match ti.d, mapOf m h with
      | .map kt et, some (_, ks, _) => (match keyOk tt kt (.il k0 z), tt et with
        | true, some te => lookF F tt ty m k0 z h K te ks
        | _, _ => False)
      | _, _ => False)
    | none => False)
  | k => (match lookS F tt ty m k h with
    | some (v, b) => K v b
    | none => False)
def mapLenS (t : TypeId) (m : S) (h : List Ob) : Option S := match tt t with
  | some ti => (match ti.d, mapOf m h with
    | .map _ _, some (_, ks, _) => some (.il .i64 ks.length)
    | _, _ => none)
  | none => none
section
variable (callK : FuncId → List S → List Ob → (S → List Ob → Prop) → Prop)
def operS (o : Op) (t : List S) (h : List Ob) (K : S → List Ob → Prop) : Prop := match o with
  | .call c => (match c.callee with
    | .value f => (match evS t f with
      | .fn f cap => callK f (c.args.toList.map (evS t) ++ cap) h K
      | .bm f fs => callK f (fs ++ c.args.toList.map (evS t)) h K
      | _ => False)
    | .invoke r name => (match evS t r with
      | .ifc ty v => (match tt ty with
        | some ti => (match ti.ms.find? fun m => m.1 == name with
          | some (_, f) => callK f (v :: c.args.toList.map (evS t)) h K
          | none => False)
        | none => False)
      | _ => False)
    | .builtin .append => (match c.args.toList.map (evS t), c.argTypes.toList with
      | [x, y], [ty, ty'] => if ty = ty' then appS F tt ty x y h K else False
      | _, _ => False)
    | .builtin .len => (match c.args.toList.map (evS t), c.argTypes.toList with
      | [.mp id], [ty] => someK (mapLenS tt ty (.mp id) h) fun v => K v h
      | _, _ => opS F tt o (evS t) h K)
    | _ => opS F tt o (evS t) h K)
  | .makeMap _ none => K (.mp h.length) (h ++ [.mapo [] []])
  | .mapUpdate ty m k v => (match mapUpdS F tt ty (evS t m) (evS t k) (evS t v) h with
    | some h' => K .un h'
    | none => False)
  | .insert ty m k v => (match mapUpdS F tt ty (evS t m) (evS t k) (evS t v) h with
    | some h' => K .un h'
    | none => False)
  | .lookup ty m k ok => lookK F tt ty (evS t m) (evS t k) h fun v b => (match ok with
      | true => K (.tup [v, .bl b]) h
      | false => K v h)
  | _ => opS F tt o (evS t) h K
def putD (t : List S) (d : Option Tmp) (v : S) : List S := match d with
  | some d => setT t d v
  | none => t
def guardD (g : Option (Option Tmp × Bool)) (t : List S) (run skip : List S → Prop) : Prop := match g with
  | none => run t
  | some (none, _) => False
  | some (some d, want) => (match getT t d with
    | .bl x => (match x, want with
      | true, true => run t
      | false, false => run t
      | _, _ => skip t)
    | .bv x => if x = true then (match want with
      | true => run (setT t d (.bl true))
      | false => skip (setT t d (.bl true))) else (match want with
      | true => skip (setT t d (.bl false))
      | false => run (setT t d (.bl false)))
    | .un => skip t
    | _ => False)
def forceN (n : Nat) (K : Nat → Prop) : Prop := match n with
  | 0 => K 0
  | k + 1 => K (Nat.succ k)
theorem forceN_eq (n : Nat) (K : Nat → Prop) : forceN n K = K n := by cases n <;> rfl
def forceI (n : Int) (K : Int → Prop) : Prop := match n with
  | .ofNat m => forceN m fun m => K (.ofNat m)
  | .negSucc m => forceN m fun m => K (.negSucc m)
theorem forceI_eq (n : Int) (K : Int → Prop) : forceI n K = K n := by cases n <;> simp only [forceI, forceN_eq]
def forceNN (n : NN) (K : NN → Prop) : Prop := match n with
  | .l n => forceN n fun n => K (.l n)
  | .v n => K (.v n)
theorem forceNN_eq (n : NN) (K : NN → Prop) : forceNN n K = K n := by cases n <;> simp only [forceNN, forceN_eq]
def forceB (n : Bool) (K : Bool → Prop) : Prop := match n with
  | true => K true
  | false => K false
theorem forceB_eq (n : Bool) (K : Bool → Prop) : forceB n K = K n := by cases n <;> rfl
def forceC (n : Cap) (K : Cap → Prop) : Prop := match n with
  | .lit n => forceNN n fun n => K (.lit n)
  | .rest n => forceNN n fun n => K (.rest n)
theorem forceC_eq (n : Cap) (K : Cap → Prop) : forceC n K = K n := by cases n <;> simp only [forceC, forceNN_eq]
def forceS (v : S) (K : S → Prop) : Prop := match v with
  | .il k n => forceI n fun n => K (.il k n)
  | .iv k n => K (.iv k n)
  | .bl x => forceB x fun x => K (.bl x)
  | .bv x => K (.bv x)
  | .tl x => K (.tl x)
  | .tv x => K (.tv x)
  | .ptr id off => forceN id fun id => forceNN off fun off => K (.ptr id off)
  | .rp a off => K (.rp a off)
  | .nil => K .nil
  | .sli id off len c z => forceN id fun id => forceNN off fun off => forceNN len fun len => forceC c fun c => forceB z fun z => K (.sli id off len c z)
  | .nsl id len p z => forceN id fun id => forceNN len fun len => forceB p fun p => forceB z fun z => K (.nsl id len p z)
  | .zsl => K .zsl
  | .tsl id n top => forceN id fun id => forceNN n fun n => K (.tsl id n top)
  | .pel id i sz off => forceN id fun id => forceN sz fun sz => forceN off fun off => K (.pel id i sz off)
  | .raw v => K (.raw v)
  | .fn f cap => K (.fn f cap)
  | .bm f cap => K (.bm f cap)
  | .ifc t x => K (.ifc t x)
  | .mp id => forceN id fun id => K (.mp id)
  | .agg cs => K (.agg cs)
  | .tup cs => K (.tup cs)
  | .un => K .un
  | .junk => K .junk
theorem forceS_eq (v : S) (K : S → Prop) : forceS v K = K v := by cases v <;> simp only [forceS, forceN_eq, forceNN_eq, forceC_eq, forceI_eq, forceB_eq]
def setTK (t : List S) (n : Nat) (v : S) (K : List S → Prop) : Prop := List.rec (motive := fun _ => Nat → (List S → Prop) → Prop) (fun _ K => K []) (fun x r ih n K => Nat.rec (motive := fun _ => Prop) (K (v :: r)) (fun k _ => ih k fun r => K (x :: r)) n) t n K
theorem setTK_succ (x : S) (r : List S) (n : Nat) (v : S) (K : List S → Prop) : setTK (x :: r) (n + 1) v K = setTK r n v fun r => K (x :: r) := rfl
theorem setTK_eq : ∀ (t : List S) (n : Nat) (v : S) (K : List S → Prop), setTK t n v K = K (setT t n v)
  | [], _, _, _ => rfl
  | _ :: _, 0, _, _ => rfl
  | x :: r, n + 1, v, K => by rw [setTK_succ]; exact setTK_eq r n v _
def putDK (t : List S) (d : Option Tmp) (v : S) (K : List S → Prop) : Prop := match d with
  | some d => setTK t d v K
  | none => K t
theorem putDK_eq (t : List S) (d : Option Tmp) (v : S) (K : List S → Prop) : putDK t d v K = K (putD t d v) := by
  cases d with
  | none => rfl
  | some d => simp only [putDK, setTK_eq]; rfl
def normL (l : List S) (K : List S → Prop) : Prop := List.rec (motive := fun _ => (List S → Prop) → Prop) (fun K => K []) (fun x _ ih K => forceS x fun x => ih fun r => K (x :: r)) l K
theorem normL_cons (x : S) (r : List S) (K : List S → Prop) : normL (x :: r) K = forceS x fun x => normL r fun r => K (x :: r) := rfl
theorem normL_eq : ∀ (l : List S) (K : List S → Prop), normL l K = K l
  | [], _ => rfl
  | x :: r, K => by rw [normL_cons, forceS_eq, normL_eq r]
def appK (h : List Ob) (o : Ob) (K : List Ob → Prop) : Prop := List.rec (motive := fun _ => (List Ob → Prop) → Prop) (fun K => K [o]) (fun x _ ih K => ih fun r => K (x :: r)) h K
theorem appK_cons (x : Ob) (r : List Ob) (o : Ob) (K : List Ob → Prop) : appK (x :: r) o K = appK r o fun r => K (x :: r) := rfl
theorem appK_eq (o : Ob) : ∀ (h : List Ob) (K : List Ob → Prop), appK h o K = K (h ++ [o])
  | [], _ => rfl
  | x :: r, K => by rw [appK_cons, appK_eq o r]; rfl
def setOK (h : List Ob) (n : Nat) (v : Ob) (K : List Ob → Prop) : Prop := List.rec (motive := fun _ => Nat → (List Ob → Prop) → Prop) (fun _ K => K []) (fun x r ih n K => Nat.rec (motive := fun _ => Prop) (K (v :: r)) (fun k _ => ih k fun r => K (x :: r)) n) h n K
theorem setOK_succ (x : Ob) (r : List Ob) (n : Nat) (v : Ob) (K : List Ob → Prop) : setOK (x :: r) (n + 1) v K = setOK r n v fun r => K (x :: r) := rfl
theorem setOK_eq : ∀ (t : List Ob) (n : Nat) (v : Ob) (K : List Ob → Prop), setOK t n v K = K (setO t n v)
  | [], _, _, _ => rfl
  | _ :: _, 0, _, _ => rfl
  | x :: r, n + 1, v, K => by rw [setOK_succ]; exact setOK_eq r n v _
def lenK (h : List Ob) (K : Nat → Prop) : Prop := List.rec (motive := fun _ => Nat → Prop) (fun n => K n) (fun _ _ ih n => ih (Nat.succ n)) h 0
theorem lenK_eq (h : List Ob) (K : Nat → Prop) : lenK h K = K h.length := by
  have key : ∀ (h : List Ob) (n : Nat), (List.rec (motive := fun _ => Nat → Prop) (fun n => K n) (fun _ _ ih n => ih (Nat.succ n)) h n) = K (n + h.length) := by
    intro h
    induction h with
    | nil => intro n; rfl
    | cons x r ih => intro n; show (List.rec (motive := fun _ => Nat → Prop) (fun n => K n) (fun _ _ ih n => ih (Nat.succ n)) r (Nat.succ n)) = _; rw [ih]; congr 1; simp; omega
  have := key h 0
  rw [Nat.zero_add] at this
  exact this
def normOb (o : Ob) (K : Ob → Prop) : Prop := match o with
  | .cells T cs => normL cs fun cs => K (.cells T cs)
  | .row T sz (.l n) cs => normL cs fun cs => K (.row T sz (.l n) cs)
  | .row T sz (.v n) cs => K (.row T sz (.v n) cs)
  | .nrow T ks xs => K (.nrow T ks xs)
  | .rowT T sz n cs => K (.rowT T sz n cs)
  | .opt x T cs => K (.opt x T cs)
  | .win cs => K (.win cs)
  | .nwin ks xs => K (.nwin ks xs)
  | .mapo ks vs => normL ks fun ks => normL vs fun vs => K (.mapo ks vs)
  | .orc l => K (.orc l)
  | .dead => K .dead
theorem normOb_eq (o : Ob) (K : Ob → Prop) : normOb o K = K o := by
  cases o with
  | row T sz n cs => cases n <;> simp only [normOb, normL_eq]
  | _ => simp only [normOb, normL_eq]
def normH : List Ob → (List Ob → Prop) → Prop
  | [], K => K []
  | o :: r, K => normOb o fun o => normH r fun r => K (o :: r)
theorem normH_eq : ∀ (h : List Ob) (K : List Ob → Prop), normH h K = K h
  | [], _ => rfl
  | o :: r, K => by simp only [normH, normOb_eq]; exact normH_eq r _
def normLast : List Ob → (List Ob → Prop) → Prop
  | [], K => K []
  | [o], K => normOb o fun o => K [o]
  | o :: q :: r, K => normLast (q :: r) fun r => K (o :: r)
theorem normLast_eq : ∀ (h : List Ob) (K : List Ob → Prop), normLast h K = K h
  | [], _ => rfl
  | [o], K => by simp only [normLast, normOb_eq]
  | o :: q :: r, K => by simp only [normLast]; exact normLast_eq (q :: r) _
def normAt : List Ob → Nat → (List Ob → Prop) → Prop
  | [], _, K => K []
  | o :: r, 0, K => normOb o fun o => K (o :: r)
  | o :: r, n + 1, K => normAt r n fun r => K (o :: r)
theorem normAt_eq : ∀ (h : List Ob) (n : Nat) (K : List Ob → Prop), normAt h n K = K h
  | [], _, _ => rfl
  | o :: r, 0, K => by simp only [normAt, normOb_eq]
  | o :: r, n + 1, K => by simp only [normAt]; exact normAt_eq r n _
def normI (o : Op) (t : List S) (h : List Ob) (K : List Ob → Prop) : Prop := match o with
  | .alloc _ => normLast h K
  | .box _ _ => normLast h K
  | .buildSlice _ _ _ => normLast h K
  | .makeSlice _ _ _ => normLast h K
  | .makeMap _ _ => normLast h K
  | .store _ a _ => (match evS t a with
    | .ptr id _ => normAt h id K
    | _ => K h)
  | .mapUpdate _ m _ _ => (match evS t m with
    | .mp id => normAt h id K
    | _ => K h)
  | .insert _ m _ _ => (match evS t m with
    | .mp id => normAt h id K
    | _ => K h)
  | .call c => (match c.callee with
    | .builtin .append => normH h K
    | _ => K h)
  | _ => K h
theorem normI_eq (o : Op) (t : List S) (h : List Ob) (K : List Ob → Prop) : normI o t h K = K h := by
  unfold normI
  split
  · exact normLast_eq _ _
  · exact normLast_eq _ _
  · exact normLast_eq _ _
  · exact normLast_eq _ _
  · exact normLast_eq _ _
  · split
    · exact normAt_eq _ _ _
    · rfl
  · split
    · exact normAt_eq _ _ _
    · rfl
  · split
    · exact normAt_eq _ _ _
    · rfl
  · split
    · exact normH_eq _ _
    · rfl
  · rfl
def isLoad : Op → Bool
  | .load .. => true
  | _ => false
def isPure : Op → Bool
  | .move .. => true
  | .assign .. => true
  | .pick .. => true
  | .build .. => true
  | .nilCheck .. => true
  | .binOp .. => true
  | .unOp .. => true
  | .makeInterface .. => true
  | .makeFunc .. => true
  | .slice .. => true
  | .fieldAddr .. => true
  | .field .. => true
  | .indexAddr .. => true
  | .index .. => true
  | .extract .. => true
  | .convert .. => true
  | .call c => (match c.callee with
    | .builtin .len => true
    | .builtin .min => true
    | .builtin .max => true
    | _ => false)
  | _ => false
inductive SO where
  | t (i : Nat)
  | c (s : S)
def soOf : Operand → SO
  | .tmp i => .t i
  | x => .c (evS [] x)
def evO (t : List S) : SO → S
  | .t i => getT t i
  | .c s => s
theorem evO_eq (t : List S) (x : Operand) : evO t (soOf x) = evS t x := by cases x <;> rfl
def getTK (t : List S) (i : Nat) (K : S → Prop) : Prop := List.rec (motive := fun _ => Nat → Prop) (fun _ => K .un) (fun x _ ih n => Nat.rec (motive := fun _ => Prop) (K x) (fun k _ => ih k) n) t i
theorem getTK_succ (x : S) (r : List S) (n : Nat) (K : S → Prop) : getTK (x :: r) (n + 1) K = getTK r n K := rfl
theorem getTK_eq : ∀ (t : List S) (i : Nat) (K : S → Prop), getTK t i K = K (getT t i)
  | [], _, _ => rfl
  | _ :: _, 0, _ => rfl
  | x :: r, n + 1, K => by rw [getTK_succ, getT_succ]; exact getTK_eq r n K
def evK (t : List S) (x : SO) (K : S → Prop) : Prop := match x with
  | .t i => getTK t i K
  | .c s => K s
theorem evK_eq (t : List S) (x : SO) (K : S → Prop) : evK t x K = K (evO t x) := by
  cases x
  · exact getTK_eq _ _ _
  · rfl
def evsK (t : List S) (l : List SO) (K : List S → Prop) : Prop := List.rec (motive := fun _ => (List S → Prop) → Prop) (fun K => K []) (fun x _ ih K => evK t x fun v => ih fun r => K (v :: r)) l K
theorem evsK_cons (t : List S) (x : SO) (l : List SO) (K : List S → Prop) : evsK t (x :: l) K = evK t x fun v => evsK t l fun r => K (v :: r) := rfl
theorem evsK_eq (t : List S) : ∀ (l : List Operand) (K : List S → Prop), evsK t (l.map soOf) K = K (l.map (evS t))
  | [], _ => rfl
  | x :: l, K => by rw [List.map_cons, evsK_cons, evK_eq, evO_eq, evsK_eq t l]; rfl
def evpK (t : List S) (l : List (Nat × SO)) (K : List (Nat × S) → Prop) : Prop := List.rec (motive := fun _ => (List (Nat × S) → Prop) → Prop) (fun K => K []) (fun x _ ih K => evK t x.2 fun v => ih fun r => K ((x.1, v) :: r)) l K
theorem evpK_cons (t : List S) (x : Nat × SO) (l : List (Nat × SO)) (K : List (Nat × S) → Prop) : evpK t (x :: l) K = evK t x.2 fun v => evpK t l fun r => K ((x.1, v) :: r) := rfl
theorem evpK_eq (t : List S) : ∀ (l : List (Nat × Operand)) (K : List (Nat × S) → Prop), evpK t (l.map fun x => (x.1, soOf x.2)) K = K (l.map fun x => (x.1, evS t x.2))
  | [], _ => rfl
  | x :: l, K => by rw [List.map_cons, evpK_cons, evK_eq, evO_eq, evpK_eq t l]; rfl
def litI : S → Option (IntKind × Int)
  | .il k n => some (k, n)
  | _ => none
theorem litI_some {s : S} {x : IntKind × Int} (h : litI s = some x) : s = .il x.1 x.2 := by
  cases s <;> simp only [litI, Option.some.injEq, reduceCtorEq] at h
  subst h; rfl
def forceL (v : S) (K : S → Prop) : Prop := match v with
  | .il k n => forceI n fun n => K (.il k n)
  | .bl x => forceB x fun x => K (.bl x)
  | v => K v
theorem forceL_eq (v : S) (K : S → Prop) : forceL v K = K v := by cases v <;> simp only [forceL, forceI_eq, forceB_eq]
def forceP (v : S) (K : S → Prop) : Prop := match v with
  | .ptr id off => forceNN off fun off => K (.ptr id off)
  | v => K v
theorem forceP_eq (v : S) (K : S → Prop) : forceP v K = K v := by cases v <;> simp only [forceP, forceNN_eq]
def nthL {α : Type} (l : List α) (i : Nat) : Option α := List.rec (motive := fun _ => Nat → Option α) (fun _ => none) (fun x _ ih n => Nat.rec (motive := fun _ => Option α) (some x) (fun k _ => ih k) n) l i
theorem nthL_succ {α : Type} (x : α) (r : List α) (n : Nat) : nthL (x :: r) (n + 1) = nthL r n := rfl
theorem nthL_eq {α : Type} : ∀ (l : List α) (i : Nat), nthL l i = l[i]?
  | [], i => by simp [nthL]
  | x :: r, 0 => rfl
  | x :: r, n + 1 => by rw [nthL_succ, nthL_eq r n]; rfl
def fieldO (t : TypeId) (f : Nat) : Option Nat := match tt t with
  | some ti => (match ti.d with
    | .struct fs => (match nthL fs f with
      | some (o, ft) => (match tt ft with
        | some te => (match te.size with
          | 0 => none
          | _ + 1 => some o)
        | none => none)
      | none => none)
    | _ => none)
  | none => none
def rGen (o : Op) : RunT := fun F tt callK t h K => operS F tt callK o t h fun v h' => normI o t h' fun h' => forceS v fun v => K v h'
def rGenP (o : Op) : RunT := fun F tt _ t h K => opS F tt o (evS t) h fun v h' => forceS v fun v => K v h'
def rMove (x : SO) : RunT := fun _ _ _ t h K => evK t x fun v => K v h
def rPick (c a b : SO) : RunT := fun _ _ _ t h K => match evO t c with
  | .bl true => evK t a fun v => K v h
  | .bl false => evK t b fun v => K v h
  | .bv x => if x = true then K (evO t a) h else K (evO t b) h
  | _ => False
def rLoad (ty : TypeId) (a : SO) : RunT := fun F tt _ t h K => someK (loadS F tt ty (evO t a) h) fun v => K v h
def rNil (x : SO) : RunT := fun _ _ _ t h K => match evO t x with
  | .ptr id off => K (.ptr id off) h
  | .pel id i sz off => K (.pel id i sz off) h
  | .rp a off => K (.rp a off) h
  | .fn f cs => K (.fn f cs) h
  | .bm f cs => K (.bm f cs) h
  | .ifc t v => K (.ifc t v) h
  | _ => False
def rBin (op : BinOp) (ty : TypeId) (x y : SO) : RunT := fun F tt _ t h K => match litI (evO t x) with
  | some (k, a) => (match litI (evO t y) with
    | some (k', b) => binF F op k k' a b fun v => forceL v fun v => K v h
    | none => binS F tt op ty (evO t x) (evO t y) fun v => forceL v fun v => K v h)
  | none => binS F tt op ty (evO t x) (evO t y) fun v => forceL v fun v => K v h
def rUn (op : UnOp) (x : SO) : RunT := fun F _ _ t h K => someK (unS F op (evO t x)) fun v => forceL v fun v => K v h
def rConv (a b : TypeId) (x : SO) : RunT := fun F tt _ t h K => someK (convS F tt a b (evO t x)) fun v => forceL v fun v => K v h
def rFA (ty : TypeId) (x : SO) (f : Nat) : RunT := fun F tt _ t h K => match fieldO tt ty f with
  | some o => (match evO t x with
    | .ptr id off => forceNN (addN F off (.l o)) fun off => K (.ptr id off) h
    | .pel id i sz off => forceN (off + o) fun off => K (.pel id i sz off) h
    | .rp a off => K (.rp a (addN F off (.l o))) h
    | _ => False)
  | none => False
def rFV (ty : TypeId) (x : SO) (f : Nat) : RunT := fun _ tt _ t h K => someK (fieldV tt ty (evO t x) f) fun v => K v h
def rIA (ty : TypeId) (x i : SO) : RunT := fun F tt _ t h K => idxAddr F tt ty (evO t x) (evO t i) fun v => forceP v fun v => K v h
def rExt (x : SO) (i : Nat) : RunT := fun _ _ _ t h K => match evO t x with
  | .tup vs => (match nthL vs i with
    | some v => K v h
    | none => False)
  | _ => False
def rBuild (ty : TypeId) (ps : List (Nat × SO)) : RunT := fun _ tt _ t h K => evpK t ps fun ps => someK (buildV tt ty ps) fun v => K v h
def rAlloc (e : TypeId) : RunT := fun _ tt _ _ h K => match tt e with
  | some ti => (match ti.zero with
    | [] => appK h (.cells e []) fun h' => lenK h fun n => K (.ptr n (.l 0)) h'
    | x :: r => appK h (.cells e (x :: r)) fun h' => lenK h fun n => K (.ptr n (.l 0)) h')
  | none => False
def rBox (e : TypeId) (x : SO) : RunT := fun _ _ _ t h K => evK t x fun v => match v with
  | .agg cs => (match ones cs with
    | true => appK h (.cells e cs) fun h' => lenK h fun n => K (.ptr n (.l 0)) h'
    | false => False)
  | v => (match v.one with
    | true => appK h (.cells e [v]) fun h' => lenK h fun n => K (.ptr n (.l 0)) h'
    | false => False)
def putK (t : TypeId) (id off : Nat) (cs : List S) (h : List Ob) (K : List Ob → Prop) : Prop := match tt t with
  | some ti => (match Nat.beq cs.length ti.size with
    | true => (match ones cs with
      | true => (match putOb (getO h id) off cs with
        | some o => setOK h id o K
        | none => False)
      | false => False)
    | false => False)
  | none => False
def rStore (ty : TypeId) (a x : SO) : RunT := fun _ tt _ t h K => match evO t a with
  | .ptr id (.l off) => evK t x fun v => (match v with
    | .agg cs => putK tt ty id off cs h fun h' => K .un h'
    | v => putK tt ty id off [v] h fun h' => K .un h')
  | .pel id i sz off => (match storeS tt ty (.pel id i sz off) (evO t x) h with
    | some h' => K .un h'
    | none => False)
  | _ => False
def rCall (f : FuncId) (args : List SO) : RunT := fun _ _ callK t h K => evsK t args fun vs => callK f vs h K
def spec : Op → Option RunT
  | .move x => some (rMove (soOf x))
  | .assign x => some (rMove (soOf x))
  | .pick c a b => some (rPick (soOf c) (soOf a) (soOf b))
  | .load t a => some (rLoad t (soOf a))
  | .nilCheck x => some (rNil (soOf x))
  | .binOp op t x y _ => (match isConstNil x || isConstNil y with
    | true => none
    | false => some (rBin op t (soOf x) (soOf y)))
  | .unOp op _ x => some (rUn op (soOf x))
  | .convert a b x => some (rConv a b (soOf x))
  | .fieldAddr t x f => some (rFA t (soOf x) f)
  | .field t x f => some (rFV t (soOf x) f)
  | .indexAddr t x i => some (rIA t (soOf x) (soOf i))
  | .extract x i => some (rExt (soOf x) i)
  | .build t ps => some (rBuild t (ps.toList.map fun x => (x.1, soOf x.2)))
  | .alloc e => some (rAlloc e)
  | .box e x => some (rBox e (soOf x))
  | .store t a x => some (rStore t (soOf a) (soOf x))
  | .call c => (match c.callee with
    | .value (.func f) => some (rCall f (c.args.toList.map soOf))
    | _ => none)
  | _ => none
def operR (o : Op) : RunT := match spec o with
  | some r => r
  | none => rGen o
def opR (o : Op) : RunT := match spec o with
  | some r => r
  | none => rGenP o
theorem spec_bin {op : BinOp} {t : TypeId} {x y : Operand} {ty : TypeId} (hn : (isConstNil x || isConstNil y) = false) (tm : List S) (callK : CallT) (h : List Ob) (K : S → List Ob → Prop) :
    opS F tt (.binOp op t x y ty) (evS tm) h K = rBin op t (soOf x) (soOf y) F tt callK tm h K := by
  simp only [opS, hn, rBin, evO_eq, forceL_eq]
  cases h1 : litI (evS tm x) with
  | none => rfl
  | some ka =>
    cases h2 : litI (evS tm y) with
    | none => rfl
    | some kb => simp only [binF_eq]; rw [litI_some h1, litI_some h2]; rfl
theorem spec_fa (ty : TypeId) (x : Operand) (f : Nat) (callK : CallT) (t : List S) (h : List Ob) (K : S → List Ob → Prop) : rFA ty (soOf x) f F tt callK t h K = opS F tt (.fieldAddr ty x f) (evS t) h K := by
  simp only [rFA, opS, evO_eq, fieldO, fieldA, nthL_eq, forceNN_eq]
  cases h1 : tt ty with
  | none => rfl
  | some ti =>
    simp only
    generalize evS t x = s
    cases hd : ti.d with
    | struct fs =>
      cases h2 : fs[f]? with
      | none => cases s <;> simp only [someK, h2, hd]
      | some oft =>
        obtain ⟨o, ft⟩ := oft
        cases h3 : tt ft with
        | none => cases s <;> simp only [someK, h2, h3, hd]
        | some te =>
          cases h4 : te.size with
          | zero => cases s <;> simp only [someK, h2, h3, h4, hd, if_true]
          | succ n => cases s <;> simp [someK, h2, h3, h4, hd, forceN_eq]
    | _ => cases s <;> simp only [someK, hd]
theorem spec_store (ty : TypeId) (a x : Operand) (callK : CallT) (t : List S) (h : List Ob) (K : S → List Ob → Prop) : rStore ty (soOf a) (soOf x) F tt callK t h K = opS F tt (.store ty a x) (evS t) h K := by
  have key : ∀ (id off : Nat) (v : S), (match v with
      | .agg cs => putK tt ty id off cs h fun h' => K .un h'
      | v => putK tt ty id off [v] h fun h' => K .un h') = match storeS tt ty (.ptr id (.l off)) v h with
      | some h' => K .un h'
      | none => False := by
    intro id off v
    have hp : ∀ cs, v.cs = cs → putK tt ty id off cs h (fun h' => K .un h') = match storeS tt ty (.ptr id (.l off)) v h with
      | some h' => K .un h'
      | none => False := by
      intro cs hcs
      simp only [putK, storeS, hcs]
      cases tt ty with
      | none => rfl
      | some ti =>
        simp only
        cases hb : Nat.beq cs.length ti.size with
        | false => have := Nat.ne_of_beq_eq_false hb; simp [this]
        | true =>
          have := Nat.eq_of_beq_eq_true hb
          simp only [if_pos this]
          cases ones cs with
          | false => rfl
          | true =>
            simp only
            cases putOb (getO h id) off cs with
            | none => rfl
            | some o => simp only [setOK_eq]
    cases v <;> exact hp _ rfl
  simp only [rStore, opS, evO_eq, evK_eq]
  cases ha : evS t a with
  | ptr id off =>
    cases off with
    | l off => exact key id off _
    | v off => simp only [storeS]
  | pel i j sz off => rfl
  | _ => simp only [storeS]
theorem spec_box (e : TypeId) (x : Operand) (callK : CallT) (t : List S) (h : List Ob) (K : S → List Ob → Prop) : rBox e (soOf x) F tt callK t h K = opS F tt (.box e x) (evS t) h K := by
  simp only [rBox, opS, evO_eq, evK_eq, appK_eq, lenK_eq]
  generalize evS t x = v
  have h1 : ∀ v : S, ones [v] = v.one := fun v => by simp only [ones]; cases v.one <;> rfl
  cases v
  case agg cs => rfl
  all_goals
    simp only [S.cs, h1]
    generalize S.one _ = b
    cases b <;> rfl
theorem spec_alloc (e : TypeId) (callK : CallT) (t : List S) (h : List Ob) (K : S → List Ob → Prop) : rAlloc e F tt callK t h K = opS F tt (.alloc e) (evS t) h K := by
  simp only [rAlloc, opS, appK_eq, lenK_eq]
  cases tt e with
  | none => rfl
  | some ti => simp only; cases ti.zero <;> rfl
theorem spec_ok {o : Op} {r : RunT} (hr : spec o = some r) (callK : CallT) (t : List S) (h : List Ob) (K : S → List Ob → Prop) :
    r F tt callK t h K = operS F tt callK o t h K ∧ (isPure o = true → r F tt callK t h K = opS F tt o (evS t) h K) := by
  cases o with
  | binOp op ty x y rt =>
    cases hn : isConstNil x || isConstNil y with
    | true => simp only [spec, hn, reduceCtorEq] at hr
    | false =>
      simp only [spec, hn, Option.some.injEq] at hr
      subst hr
      have := spec_bin F tt (ty := rt) hn t callK h K (op := op) (t := ty)
      exact ⟨this.symm, fun _ => this.symm⟩
  | call c =>
    obtain ⟨callee, args, ats⟩ := c
    cases callee with
    | value f =>
      cases f with
      | func g =>
        simp only [spec, Option.some.injEq] at hr
        subst hr
        refine ⟨?_, fun h => by cases h⟩
        simp only [rCall, evsK_eq, operS, evS, List.append_nil]
      | _ => simp only [spec, reduceCtorEq] at hr
    | _ => simp only [spec, reduceCtorEq] at hr
  | fieldAddr ty x f =>
    simp only [spec, Option.some.injEq] at hr
    subst hr
    have := spec_fa F tt ty x f callK t h K
    exact ⟨this, fun _ => this⟩
  | store ty a x =>
    simp only [spec, Option.some.injEq] at hr
    subst hr
    exact ⟨spec_store F tt ty a x callK t h K, fun h => by cases h⟩
  | box e x =>
    simp only [spec, Option.some.injEq] at hr
    subst hr
    exact ⟨spec_box F tt e x callK t h K, fun h => by cases h⟩
  | alloc e =>
    simp only [spec, Option.some.injEq] at hr
    subst hr
    exact ⟨spec_alloc F tt e callK t h K, fun h => by cases h⟩
  | move x =>
    simp only [spec, Option.some.injEq] at hr
    subst hr
    simp only [rMove, evK_eq, evO_eq, operS, opS, implies_true, and_self]
  | assign x =>
    simp only [spec, Option.some.injEq] at hr
    subst hr
    simp only [rMove, evK_eq, evO_eq, operS, opS, implies_true, and_self]
  | pick c a b =>
    simp only [spec, Option.some.injEq] at hr
    subst hr
    simp only [rPick, evK_eq, evO_eq, operS, opS]
    generalize evS t c = v
    cases v <;> exact ⟨rfl, fun _ => rfl⟩
  | load ty a =>
    simp only [spec, Option.some.injEq] at hr
    subst hr
    simp only [rLoad, evO_eq, operS, opS, implies_true, and_self]
  | nilCheck x =>
    simp only [spec, Option.some.injEq] at hr
    subst hr
    simp only [rNil, evO_eq, operS, opS]
    generalize evS t x = v
    cases v <;> exact ⟨rfl, fun _ => rfl⟩
  | unOp op ty x =>
    simp only [spec, Option.some.injEq] at hr
    subst hr
    simp only [rUn, evO_eq, operS, opS, forceL_eq, implies_true, and_self]
  | convert a b x =>
    simp only [spec, Option.some.injEq] at hr
    subst hr
    simp only [rConv, evO_eq, operS, opS, forceL_eq, implies_true, and_self]
  | field ty x f =>
    simp only [spec, Option.some.injEq] at hr
    subst hr
    simp only [rFV, evO_eq, operS, opS, implies_true, and_self]
  | indexAddr ty x i =>
    simp only [spec, Option.some.injEq] at hr
    subst hr
    simp only [rIA, evO_eq, operS, opS, forceP_eq, implies_true, and_self]
  | extract x i =>
    simp only [spec, Option.some.injEq] at hr
    subst hr
    simp only [rExt, evO_eq, operS, opS, nthL_eq]
    generalize evS t x = v
    cases v <;> exact ⟨rfl, fun _ => rfl⟩
  | build ty ps =>
    simp only [spec, Option.some.injEq] at hr
    subst hr
    simp only [rBuild, evpK_eq, operS, opS, implies_true, and_self]
  | _ => simp only [spec, reduceCtorEq] at hr
theorem operR_eq (o : Op) (callK : CallT) (t : List S) (h : List Ob) (K : S → List Ob → Prop) : operR o F tt callK t h K = operS F tt callK o t h K := by
  unfold operR
  cases hs : spec o with
  | none => simp only [rGen, normI_eq, forceS_eq]
  | some r => exact (spec_ok F tt hs callK t h K).1
theorem opR_eq {o : Op} (hp : isPure o = true) (callK : CallT) (t : List S) (h : List Ob) (K : S → List Ob → Prop) : opR o F tt callK t h K = opS F tt o (evS t) h K := by
  unfold opR
  cases hs : spec o with
  | none => simp only [rGenP, forceS_eq]
  | some r => exact (spec_ok F tt hs callK t h K).2 hp
def dstOf (ops : List Oper) (j : Nat) : Option Tmp := match ops[j]? with
  | some o => o.dst
  | none => none
def guOf (all : List Oper) (o : Oper) : Option (Option Tmp × Bool) := match o.guard with
  | some (j, w) => some (dstOf all j, w)
  | none => none
def coOf (all : List Oper) (o : Oper) : CO := ⟨o.dst, operR o.op, guOf all o⟩
def coP (all : List Oper) (o : Oper) : CO := ⟨o.dst, opR o.op, guOf all o⟩
def loadOp : Op → Option (TypeId × Operand)
  | .load t a => some (t, a)
  | _ => none
def stepOf (all : List Oper) (i : Nat) (o : Oper) : DStep := match loadOp o.op with
  | some (t, a) => .load i (coP all o) t a
  | none => .take i (coP all o)
def maskE (acc : List Nat) : List Edge → Nat
  | [] => 0
  | e :: r => match Region.binds .any e with
    | true => 2 ^ e.on ||| acc.getD e.on 0 ||| maskE acc r
    | false => maskE acc r
def masks : List Oper → List Nat → List Nat
  | [], acc => acc
  | o :: r, acc => masks r (acc ++ [maskE acc o.after.toList])
def planGo (ops : Array Oper) (ms : List Nat) : Nat → Array Bool → List Nat → Option (List DStep)
  | 0, _, _ => none
  | n + 1, listed, taken =>
    match Region.ready .any ops listed with
    | [] => some []
    | r :: rs => match (r :: rs).find? fun i => (match ops[i]? with
        | some o => (isLoad o.op || isPure o.op) && Region.free .any ops listed i
        | none => false) with
      | some i => (match ops[i]? with
        | some o => (match planGo ops ms n (listed.setIfInBounds i true) (if isLoad o.op then i :: taken else taken) with
          | some ps => some (stepOf ops.toList i o :: ps)
          | none => none)
        | none => none)
      | none => (match rs, ops[r]? with
        | [], some o =>
          let keep := taken.filter fun l => !(ms.getD r 0).testBit l
          (match planGo ops ms n (listed.setIfInBounds r true) keep with
          | some ps => some (.one r (coOf ops.toList o) keep :: ps)
          | none => none)
        | _, _ => none)
def plan (ops : Array Oper) : Option (List DStep) :=
  match Region.noSelect ops with
  | true => (match planGo ops (masks ops.toList []) (ops.size + 1) (Array.replicate ops.size false) [] with
    | some ps => if ps.length = ops.size then some ps else none
    | none => none)
  | false => none
def stepT (all : List Oper) (i : Nat) (o : Oper) (r : DT) : DT := match loadOp o.op with
  | some (t, a) => .load i (coP all o) t a r
  | none => .take i (coP all o) r
def forks (f : Nat → Option DT) : List Nat → Option DT
  | [] => none
  | j :: r => (match r with
    | [] => f j
    | k :: r' => (match f j, forks f (k :: r') with
      | some a, some b => if a.depth = b.depth then some (.fork a b) else none
      | _, _ => none))
def planT (ops : Array Oper) (ms : List Nat) : Nat → Array Bool → List Nat → Option DT
  | 0, _, _ => none
  | n + 1, listed, taken =>
    match Region.ready .any ops listed with
    | [] => some .nil
    | r :: rs => match (r :: rs).find? fun i => (match ops[i]? with
        | some o => (isLoad o.op || isPure o.op) && Region.free .any ops listed i
        | none => false) with
      | some i => (match ops[i]? with
        | some o => (match planT ops ms n (listed.setIfInBounds i true) (if isLoad o.op then i :: taken else taken) with
          | some p => some (stepT ops.toList i o p)
          | none => none)
        | none => none)
      | none => if rs.length ≤ 1 then forks (fun r => match ops[r]? with
          | some o =>
            let keep := taken.filter fun l => !(ms.getD r 0).testBit l
            (match planT ops ms n (listed.setIfInBounds r true) keep with
            | some p => some (.one r (coOf ops.toList o) keep p)
            | none => none)
          | none => none) (r :: rs) else none
def planF (ops : Array Oper) : Option DT :=
  match Region.noSelect ops with
  | true => (match planT ops (masks ops.toList []) (ops.size + 1) (Array.replicate ops.size false) [] with
    | some p => if p.depth = ops.size then some p else none
    | none => none)
  | false => none
def comp : Code → Cd
  | .skip => .skip
  | .label _ => .skip
  | .region _ ops false => .reg (ops.toList.map (coOf ops.toList))
  | .region _ ops true => (match plan ops with
    | some ps => .draw ps
    | none => (match planF ops with
      | some p => .drawF p
      | none => .bad))
  | .seq a b => .seq (comp a) (comp b)
  | .cond c a b => .cond c (comp a) (comp b)
  | .block id a => .block id (comp a)
  | .loop a => .loop (comp a)
  | .exit id => .exit id
  | .goto l => .goto l
  | .ret => .ret
  | .scope a => .scope (comp a)
  | .rangeFunc _ _ _ _ => .bad
  | .refuse _ => .bad

def orcS (v : S) (h : List Ob) (K : S → List Ob → Prop) : Prop := match v with
  | .bv c => (match getO h 0 with
    | .orc l => (match l with
      | .b x :: r => c = x ∧ setOK h 0 (.orc r) fun h' => K (.bl x) h'
      | _ => K (.bv c) h)
    | _ => K (.bv c) h)
  | .iv k c => (match getO h 1 with
    | .orc l => (match l with
      | .n e :: r => c = e ∧ setOK h 1 (.orc r) fun h' => K (.iv k e) h'
      | .l e :: r => c = e ∧ setOK h 1 (.orc r) fun h' => K (.il k e) h'
      | .s :: r => setOK h 1 (.orc r) fun h' => K (.iv k c) h'
      | _ => K (.iv k c) h)
    | _ => K (.iv k c) h)
  | v => K v h
def runG (o : CO) (t : List S) (h : List Ob) (K : List S → List Ob → S → Prop) : Prop :=
  guardD o.guard t (fun t => o.run F tt callK t h fun v h' => orcS v h' fun v h' => putDK t o.dst v fun t => K t h' v) (fun t => putDK t o.dst .un fun t => K t h .un)
theorem runG_eq (all : List Oper) (o : Oper) (t : List S) (h : List Ob) (K : List S → List Ob → S → Prop) : runG F tt callK (coOf all o) t h K =
    guardD (guOf all o) t (fun t => operS F tt callK o.op t h fun v h' => orcS v h' fun v h' => K (putD t o.dst v) h' v) (fun t => K (putD t o.dst .un) h .un) := by
  simp only [runG, coOf, operR_eq, putDK_eq]
theorem runP_eq {all : List Oper} {o : Oper} (hp : isPure o.op = true) (t : List S) (h : List Ob) (K : List S → List Ob → S → Prop) : runG F tt callK (coP all o) t h K =
    guardD (guOf all o) t (fun t => opS F tt o.op (evS t) h fun v h' => orcS v h' fun v h' => K (putD t o.dst v) h' v) (fun t => K (putD t o.dst .un) h .un) := by
  simp only [runG, coP, opR_eq _ _ hp, putDK_eq]
def execOps (l : List CO) (t : List S) (h : List Ob) (K : St → Prop) : Prop := List.rec (motive := fun _ => List S → List Ob → Prop) (fun t h => K ⟨t, h⟩) (fun o _ ih t h => runG F tt callK o t h fun t' h' _ => ih t' h') l t h
theorem execOps_nil (t : List S) (h : List Ob) (K : St → Prop) : execOps F tt callK [] t h K = K ⟨t, h⟩ := rfl
theorem execOps_cons (o : CO) (l : List CO) (t : List S) (h : List Ob) (K : St → Prop) : execOps F tt callK (o :: l) t h K = runG F tt callK o t h fun t' h' _ => execOps F tt callK l t' h' K := rfl
def S.sure : S → Bool
  | .sli _ _ _ _ z => !z
  | .nsl _ _ _ z => !z
  | .zsl => false
  | .tsl _ _ _ => false
  | .junk => false
  | .agg cs => sures cs
  | .fn _ cs => sures cs
  | .bm _ cs => sures cs
  | .tup cs => sures cs
  | .ifc _ x => S.sure x
  | _ => true
where sures : List S → Bool
  | [] => true
  | x :: r => S.sure x && sures r
mutual
def S.same : S → S → Bool
  | .il k n, .il k' n' => (if k = k' then true else false) && (n == n')
  | .bl x, .bl y => x == y
  | .tl x, .tl y => x == y
  | .ptr i (.l o), .ptr j (.l p) => (i == j) && (o == p)
  | .nil, .nil => true
  | .sli i (.l o) (.l n) (.rest (.l c)) z, .sli i' (.l o') (.l n') (.rest (.l c')) z' => (i == i') && ((o == o') && ((n == n') && ((c == c') && (z == z'))))
  | .raw (.slice none 0 0), .raw (.slice none 0 0) => true
  | .raw .nilIface, .raw .nilIface => true
  | .raw .nilFunc, .raw .nilFunc => true
  | .fn f cap, .fn f' cap' => (f == f') && sames cap cap'
  | .ifc t x, .ifc t' x' => (t == t') && S.same x x'
  | .agg x, .agg y => sames x y
  | .sli i (.l o) (.l n) (.lit (.l c)) z, .sli i' (.l o') (.l n') (.lit (.l c')) z' => (i == i') && ((o == o') && ((n == n') && ((c == c') && (z == z'))))
  | .mp i, .mp j => i == j
  | .tsl i (.l n) k, .tsl j (.l m) k' => (i == j) && ((n == m) && (k == k'))
  | .nsl i (.l n) p z, .nsl j (.l m) p' z' => (i == j) && ((n == m) && ((p == p') && (z == z')))
  | _, _ => false
def sames : List S → List S → Bool
  | [], [] => true
  | x :: r, y :: q => S.same x y && sames r q
  | _, _ => false
end
def sameO : Option S → S → Bool
  | some x, s => S.same x s
  | none, _ => false
mutual
theorem same_eq : ∀ (x y : S), S.same x y = true → x = y
  | x, y, h => by
    unfold S.same at h
    split at h
    all_goals try simp only [Bool.and_eq_true, beq_iff_eq, Bool.if_false_right, Bool.and_true, decide_eq_true_eq, Bool.false_eq_true] at h
    case h_10 => rw [h.1, sames_eq _ _ h.2]
    case h_11 => rw [h.1, same_eq _ _ h.2]
    case h_12 => rw [sames_eq _ _ h]
    all_goals simp_all
theorem sames_eq : ∀ (x y : List S), sames x y = true → x = y
  | x, y, h => by
    unfold sames at h
    split at h
    · rfl
    · simp only [Bool.and_eq_true] at h
      rw [same_eq _ _ h.1, sames_eq _ _ h.2]
    · cases h
end
theorem sameO_eq {x : Option S} {s : S} (h : sameO x s = true) : x = some s := by
  cases x with
  | none => simp [sameO] at h
  | some x => rw [same_eq _ _ h]
def checkL : List (Nat × TypeId × S × S) → List Ob → Prop → Prop
  | [], _, K => K
  | (_, t, a, s) :: r, h, K => (match sameO (loadS F tt t a h) s with
    | true => checkL r h K
    | false => loadS F tt t a h = some s ∧ checkL r h K)
def memN : List Nat → Nat → Bool
  | [], _ => false
  | y :: r, x => match Nat.beq x y with
    | true => true
    | false => memN r x
theorem memN_eq : ∀ (l : List Nat) (x : Nat), memN l x = l.contains x
  | [], x => by simp [memN]
  | y :: r, x => by
    simp only [memN, List.contains_cons]
    cases h : Nat.beq x y with
    | true => have := Nat.eq_of_beq_eq_true h; subst this; simp
    | false =>
      have := Nat.ne_of_beq_eq_false h
      simp [memN_eq r x, this]
def filtK (keep : List Nat) : List (Nat × TypeId × S × S) → (List (Nat × TypeId × S × S) → Prop) → Prop
  | [], K => K []
  | x :: r, K => match memN keep x.1 with
    | true => filtK keep r fun r => K (x :: r)
    | false => filtK keep r K
theorem filtK_eq (keep : List Nat) : ∀ (L : List (Nat × TypeId × S × S)) (K : List (Nat × TypeId × S × S) → Prop), filtK keep L K = K (L.filter fun x => keep.contains x.1)
  | [], K => rfl
  | x :: r, K => by
    simp only [filtK, List.filter_cons, memN_eq]
    cases h : keep.contains x.1 with
    | true => simp only [if_true]; exact filtK_eq keep r _
    | false => simp only [Bool.false_eq_true, if_false]; exact filtK_eq keep r _
def sureK (v : S) (K : S → Prop) : Prop := match S.sure v with
  | true => K v
  | false => (match v with
    | .nsl id len p true => if F .B .lt 0 len.z = true then K (.nsl id len p false) else False
    | _ => False)
def execD (l : List DStep) (t : List S) (h : List Ob) (L : List (Nat × TypeId × S × S)) (K : St → Prop) : Prop := List.rec (motive := fun _ => List S → List Ob → List (Nat × TypeId × S × S) → Prop) (fun t h _ => K ⟨t, h⟩)
  (fun d _ ih t h L => match d with
  | .load i o ty x => guardD o.guard t (fun t' => someK (loadS F tt ty (evS t x) h) fun v => sureK F v fun v => putDK t' o.dst v fun t' => ih t' h ((i, ty, evS t x, v) :: L)) (fun t => putDK t o.dst .un fun t => ih t h L)
  | .take _ o => runG F tt callK o t h fun t' h' _ => ih t' h' L
  | .one _ o keep => runG F tt callK o t h fun t' h' _ => filtK keep L fun L => checkL F tt L h' (ih t' h' L)) l t h L
def execT (p : DT) (t : List S) (h : List Ob) (L : List (Nat × TypeId × S × S)) (K : St → Prop) : Prop := DT.rec (motive := fun _ => List S → List Ob → List (Nat × TypeId × S × S) → Prop) (fun t h _ => K ⟨t, h⟩)
  (fun i o ty x _ ih t h L => guardD o.guard t (fun t' => someK (loadS F tt ty (evS t x) h) fun v => sureK F v fun v => putDK t' o.dst v fun t' => ih t' h ((i, ty, evS t x, v) :: L)) (fun t => putDK t o.dst .un fun t => ih t h L))
  (fun _ o _ ih t h L => runG F tt callK o t h fun t' h' _ => ih t' h' L)
  (fun _ o keep _ ih t h L => runG F tt callK o t h fun t' h' _ => filtK keep L fun L => checkL F tt L h' (ih t' h' L))
  (fun _ _ ia ib t h L => ia t h L ∧ ib t h L) p t h L
theorem execT_nil (t : List S) (h : List Ob) (L : List (Nat × TypeId × S × S)) (K : St → Prop) : execT F tt callK .nil t h L K = K ⟨t, h⟩ := rfl
theorem execT_load (i : Nat) (o : CO) (ty : TypeId) (x : Operand) (r : DT) (t : List S) (h : List Ob) (L : List (Nat × TypeId × S × S)) (K : St → Prop) : execT F tt callK (.load i o ty x r) t h L K = guardD o.guard t (fun t' => someK (loadS F tt ty (evS t x) h) fun v => sureK F v fun v => putDK t' o.dst v fun t' => execT F tt callK r t' h ((i, ty, evS t x, v) :: L) K) (fun t => putDK t o.dst .un fun t => execT F tt callK r t h L K) := rfl
theorem execT_take (i : Nat) (o : CO) (r : DT) (t : List S) (h : List Ob) (L : List (Nat × TypeId × S × S)) (K : St → Prop) : execT F tt callK (.take i o r) t h L K = runG F tt callK o t h fun t' h' _ => execT F tt callK r t' h' L K := rfl
theorem execT_one (i : Nat) (o : CO) (keep : List Nat) (r : DT) (t : List S) (h : List Ob) (L : List (Nat × TypeId × S × S)) (K : St → Prop) : execT F tt callK (.one i o keep r) t h L K = runG F tt callK o t h fun t' h' _ => filtK keep L fun L => checkL F tt L h' (execT F tt callK r t' h' L K) := rfl
theorem execT_fork (a b : DT) (t : List S) (h : List Ob) (L : List (Nat × TypeId × S × S)) (K : St → Prop) : execT F tt callK (.fork a b) t h L K = (execT F tt callK a t h L K ∧ execT F tt callK b t h L K) := rfl
theorem execD_nil (t : List S) (h : List Ob) (L : List (Nat × TypeId × S × S)) (K : St → Prop) : execD F tt callK [] t h L K = K ⟨t, h⟩ := rfl
theorem execD_load (i : Nat) (o : CO) (ty : TypeId) (x : Operand) (r : List DStep) (t : List S) (h : List Ob) (L : List (Nat × TypeId × S × S)) (K : St → Prop) : execD F tt callK (.load i o ty x :: r) t h L K = guardD o.guard t (fun t' => someK (loadS F tt ty (evS t x) h) fun v => sureK F v fun v => putDK t' o.dst v fun t' => execD F tt callK r t' h ((i, ty, evS t x, v) :: L) K) (fun t => putDK t o.dst .un fun t => execD F tt callK r t h L K) := rfl
theorem execD_take (i : Nat) (o : CO) (r : List DStep) (t : List S) (h : List Ob) (L : List (Nat × TypeId × S × S)) (K : St → Prop) : execD F tt callK (.take i o :: r) t h L K = runG F tt callK o t h fun t' h' _ => execD F tt callK r t' h' L K := rfl
theorem execD_one (i : Nat) (o : CO) (keep : List Nat) (r : List DStep) (t : List S) (h : List Ob) (L : List (Nat × TypeId × S × S)) (K : St → Prop) : execD F tt callK (.one i o keep :: r) t h L K = runG F tt callK o t h fun t' h' _ => filtK keep L fun L => checkL F tt L h' (execD F tt callK r t' h' L K) := rfl
end
section
variable (callK : FuncId → List S → List Ob → (S → List Ob → Prop) → Prop)
variable (loopK : Nat → Cd → St → (X → St → Prop) → Prop) (n0 : Nat)
def exec (c : Cd) (st : St) (K : X → St → Prop) : Prop := Cd.rec (motive := fun _ => St → (X → St → Prop) → Prop)
  (fun st K => K .normal st)
  (fun ops st K => execOps F tt callK ops st.t st.h fun st => K .normal st)
  (fun ps st K => execD F tt callK ps st.t st.h [] fun st => K .normal st)
  (fun p st K => execT F tt callK p st.t st.h [] fun st => K .normal st)
  (fun _ _ ia ib st K => ia st fun x st => (match x with
    | .normal => ib st K
    | x => K x st))
  (fun c _ _ ia ib st K => (match evS st.t c with
    | .bl true => ia st K
    | .bl false => ib st K
    | .bv x => if x = true then ia st K else ib st K
    | _ => False))
  (fun id _ ia st K => ia st fun x st => (match x with
    | .exit i => if i = id then K .normal st else K (.exit i) st
    | x => K x st))
  (fun a _ st K => loopK n0 a st K)
  (fun id st K => K (.exit id) st)
  (fun l st K => K (.goto l) st)
  (fun st K => K .ret st)
  (fun _ ia st K => ia st fun x st => (match x with
    | .goto _ => False
    | x => K x st))
  (fun _ _ => False) c st K
theorem exec_skip (st : St) (K : X → St → Prop) : exec F tt callK loopK n0 .skip st K = K .normal st := rfl
theorem exec_reg (ops : List CO) (st : St) (K : X → St → Prop) : exec F tt callK loopK n0 (.reg ops) st K = execOps F tt callK ops st.t st.h fun st => K .normal st := rfl
theorem exec_draw (ps : List DStep) (st : St) (K : X → St → Prop) : exec F tt callK loopK n0 (.draw ps) st K = execD F tt callK ps st.t st.h [] fun st => K .normal st := rfl
theorem exec_drawF (p : DT) (st : St) (K : X → St → Prop) : exec F tt callK loopK n0 (.drawF p) st K = execT F tt callK p st.t st.h [] fun st => K .normal st := rfl
theorem exec_seq (a b : Cd) (st : St) (K : X → St → Prop) : exec F tt callK loopK n0 (.seq a b) st K = exec F tt callK loopK n0 a st fun x st => (match x with
    | .normal => exec F tt callK loopK n0 b st K
    | x => K x st) := rfl
theorem exec_cond (c : Operand) (a b : Cd) (st : St) (K : X → St → Prop) : exec F tt callK loopK n0 (.cond c a b) st K = (match evS st.t c with
    | .bl true => exec F tt callK loopK n0 a st K
    | .bl false => exec F tt callK loopK n0 b st K
    | .bv x => if x = true then exec F tt callK loopK n0 a st K else exec F tt callK loopK n0 b st K
    | _ => False) := rfl
theorem exec_block (id : Nat) (a : Cd) (st : St) (K : X → St → Prop) : exec F tt callK loopK n0 (.block id a) st K = exec F tt callK loopK n0 a st fun x st => (match x with
    | .exit i => if i = id then K .normal st else K (.exit i) st
    | x => K x st) := rfl
theorem exec_loop (a : Cd) (st : St) (K : X → St → Prop) : exec F tt callK loopK n0 (.loop a) st K = loopK n0 a st K := rfl
theorem exec_exit (id : Nat) (st : St) (K : X → St → Prop) : exec F tt callK loopK n0 (.exit id) st K = K (.exit id) st := rfl
theorem exec_goto (l : Nat) (st : St) (K : X → St → Prop) : exec F tt callK loopK n0 (.goto l) st K = K (.goto l) st := rfl
theorem exec_ret (st : St) (K : X → St → Prop) : exec F tt callK loopK n0 .ret st K = K .ret st := rfl
theorem exec_scope (a : Cd) (st : St) (K : X → St → Prop) : exec F tt callK loopK n0 (.scope a) st K = exec F tt callK loopK n0 a st fun x st => (match x with
    | .goto _ => False
    | x => K x st) := rfl
theorem exec_bad (st : St) (K : X → St → Prop) : exec F tt callK loopK n0 .bad st K = False := rfl
end
def resS (rs : List ResultVar) (st : St) : Option (List S) := match rs with
  | [] => some []
  | r :: rs => (match (match r with
      | .tmp t => some (getT st.t t)
      | .cell a t => loadS F tt t (getT st.t a) st.h), resS rs st with
    | some v, some vs => some (v :: vs)
    | _, _ => none)
def retS (rs : List ResultVar) (st : St) (K : S → List Ob → Prop) : Prop := match resS F tt rs st with
  | some [v] => K v st.h
  | some vs => K (.tup vs) st.h
  | none => False
def resK (st : St) (rs : List ResultVar) (K : List S → Prop) : Prop := List.rec (motive := fun _ => (List S → Prop) → Prop) (fun K => K []) (fun r _ ih K => match r with
  | .tmp t => getTK st.t t fun v => ih fun vs => K (v :: vs)
  | .cell a t => (match loadS F tt t (getT st.t a) st.h with
    | some v => ih fun vs => K (v :: vs)
    | none => False)) rs K
theorem resK_cons (st : St) (r : ResultVar) (rs : List ResultVar) (K : List S → Prop) : resK F tt st (r :: rs) K = (match r with
  | .tmp t => getTK st.t t fun v => resK F tt st rs fun vs => K (v :: vs)
  | .cell a t => (match loadS F tt t (getT st.t a) st.h with
    | some v => resK F tt st rs fun vs => K (v :: vs)
    | none => False)) := rfl
theorem resK_eq (st : St) : ∀ (rs : List ResultVar) (K : List S → Prop), resK F tt st rs K = (match resS F tt rs st with
  | some vs => K vs
  | none => False)
  | [], _ => rfl
  | r :: rs, K => by
    rw [resK_cons]
    cases r with
    | tmp t =>
      simp only [getTK_eq, resK_eq st rs, resS]
      cases resS F tt rs st <;> rfl
    | cell a t =>
      simp only [resK_eq st rs, resS]
      cases loadS F tt t (getT st.t a) st.h with
      | none => cases resS F tt rs st <;> rfl
      | some v => cases resS F tt rs st <;> rfl
def retK (rs : List ResultVar) (st : St) (K : S → List Ob → Prop) : Prop := resK F tt st rs fun vs => match vs with
  | [v] => K v st.h
  | vs => K (.tup vs) st.h
theorem retK_eq (rs : List ResultVar) (st : St) (K : S → List Ob → Prop) : retK F tt rs st K = retS F tt rs st K := by
  unfold retK retS
  rw [resK_eq]
  cases resS F tt rs st with
  | none => rfl
  | some vs =>
    cases vs with
    | nil => rfl
    | cons v vs => cases vs <;> rfl
def callN (ff : Nat → Option FI) (stop : FuncId → List S → List Ob → (S → List Ob → Prop) → Prop) (loopK : Nat → Cd → St → (X → St → Prop) → Prop) : Nat → FuncId → List S → List Ob → (S → List Ob → Prop) → Prop
  | 0, f, args, h, K => stop f args h K
  | n + 1, f, args, h, K => match ff f with
    | some fi => normL (args ++ List.replicate (fi.ntmps - args.length) .un) fun t => exec F tt (callN ff stop loopK n) loopK h.length fi.body ⟨t, h⟩ fun x st => (match x with
      | .normal => retK F tt fi.res st K
      | .ret => retK F tt fi.res st K
      | _ => False)
    | none => stop f args h K
def runN (ff : Nat → Option FI) (stop : FuncId → List S → List Ob → (S → List Ob → Prop) → Prop) : Nat → (FuncId → List S → List Ob → (S → List Ob → Prop) → Prop) × (Nat → Cd → St → (X → St → Prop) → Prop)
  | 0 => (fun _ _ _ _ => False, fun _ _ _ _ => False)
  | n + 1 => (fun f args h K => (match ff f with
    | some fi => normL (args ++ List.replicate (fi.ntmps - args.length) .un) fun t => exec F tt (runN ff stop n).1 (runN ff stop n).2 h.length fi.body ⟨t, h⟩ fun x st => (match x with
      | .normal => retK F tt fi.res st K
      | .ret => retK F tt fi.res st K
      | _ => False)
    | none => stop f args h K),
    fun n0 d st K => exec F tt (runN ff stop n).1 (runN ff stop n).2 n0 d st fun x st' => (match x with
      | .normal => (runN ff stop n).2 n0 d st' K
      | x => K x st'))
end
end
end Go.SX
