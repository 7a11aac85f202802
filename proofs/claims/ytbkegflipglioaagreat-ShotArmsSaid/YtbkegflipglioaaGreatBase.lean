/- Small words of my own for walks over blocks: what a block holds, and which old blocks a call may have turned. -/
import Derived.WalkKit
import Derived.WalkSpells
import Derived.WalkLawsBesides
import Derived.Deep.MidRow
import Derived.Deep.RegionHeld3
import Derived.KernelRfl
namespace Go.Proofs.YtbkegflipglioaaGreat
open Go.RowKit

/- A field, an element and an operand of an aggregate: the walk opens them by their definitions. -/
attribute [go_sem] Instr.field Instr.index part asAgg

/-- Arrays by '==': element by element. -/
@[go_sem] def eqElems (d : Nat) (e : TypeId) (n : Nat) (xs ys : Array Value) : List Nat → Sem Bool
  | [] => pure true
  | i :: is => do
    let a ← part e xs (i * n)
    let b ← part e ys (i * n)
    let r ← Op.equalIn d e a b
    if (!r) = true then pure false else eqElems d e n xs ys is

@[go_sem] theorem run_equalIn_arr {P : Program} (w : World) (d : Nat) (t : TypeId) (xs ys : Array Value) (ht : P.underlying t = some (.array (P.arrayLen t) (P.elem t))) :
    (Op.equalIn (d + 1) t (.agg xs) (.agg ys)).run P w = ((sizeOf (P.elem t)).run P w).andThen fun n w => (eqElems d (P.elem t) n xs ys (List.range (P.arrayLen t))).run P w := by
  simp only [Op.equalIn, Sem.run_bind, run_underlying ht, Result.andThen_ok]
  congr 1
  funext n w1
  clear ht
  rw [Std.Legacy.Range.forIn_eq_forIn_range']
  simp only [Std.Legacy.Range.size, Nat.sub_zero, Nat.add_sub_cancel, Nat.div_one, ← List.range_eq_range']
  generalize List.range (P.arrayLen t) = is
  induction is generalizing w1 with
  | nil => simp [eqElems]
  | cons f fs ih =>
    simp only [List.forIn_cons, eqElems, Sem.run_bind, Sem.run_ite]
    generalize (part (P.elem t) xs (f * n)).run P w1 = r1
    cases r1 with
    | ok a w1 =>
      simp only [Result.andThen_ok]
      generalize (part (P.elem t) ys (f * n)).run P w1 = r2
      cases r2 with
      | ok b w2 =>
        simp only [Result.andThen_ok]
        generalize (Op.equalIn d (P.elem t) a b).run P w2 = r3
        cases r3 with
        | ok r w3 =>
          cases r
          · simp only [Result.andThen_ok, Bool.not_false, if_true, Sem.run_pure]
          · simp only [Result.andThen_ok, Bool.not_true, Bool.false_eq_true, if_false, Sem.run_pure]
            exact ih w3
        | halt x w3 => simp [Result.andThen]
      | halt x w2 => simp [Result.andThen]
    | halt x w1 => simp [Result.andThen]

/-- Block b holds these cells, all of them free. -/
def Blk (w : World) (b : Nat) (T : TypeId) (cs : List Value) : Prop := w.heap[b]? = some (.cells cs.toArray T (0, 0))

/-- Of the blocks that w had, none but those of S has turned; the streams are as they were. -/
structure Upd (S : List Nat) (w w' : World) : Prop where
  os : w'.os = w.os
  tape : w'.tape = w.tape
  output : w'.output = w.output
  size : w.heap.size ≤ w'.heap.size
  block : ∀ k, k < w.heap.size → k ∉ S → w'.heap[k]? = w.heap[k]?

theorem Upd.refl (S : List Nat) (w : World) : Upd S w w := ⟨rfl, rfl, rfl, Nat.le_refl _, fun _ _ _ => rfl⟩

theorem Upd.trans {S : List Nat} {a b c : World} (h : Upd S a b) (k : Upd S b c) : Upd S a c :=
  ⟨k.os.trans h.os, k.tape.trans h.tape, k.output.trans h.output, Nat.le_trans h.size k.size,
   fun i hi hs => (k.block i (Nat.lt_of_lt_of_le hi h.size) hs).trans (h.block i hi hs)⟩

/-- What came behind may also turn blocks that a did not have. -/
theorem Upd.and {S S' : List Nat} {a b c : World} (h : Upd S a b) (k : Upd S' b c) (hs : ∀ x, x ∈ S' → x ∈ S ∨ a.heap.size ≤ x) : Upd S a c :=
  ⟨k.os.trans h.os, k.tape.trans h.tape, k.output.trans h.output, Nat.le_trans h.size k.size,
   fun i hi hn => (k.block i (Nat.lt_of_lt_of_le hi h.size) (fun hm => by rcases hs i hm with h' | h'; exact hn h'; omega)).trans (h.block i hi hn)⟩

theorem Upd.mono {S S' : List Nat} {a b : World} (h : Upd S a b) (hs : ∀ x, x ∈ S → x ∈ S' ∨ a.heap.size ≤ x) : Upd S' a b :=
  ⟨h.os, h.tape, h.output, h.size, fun i hi hn => h.block i hi (fun hm => by rcases hs i hm with h' | h'; exact hn h'; omega)⟩

theorem Upd.drew {S : List Nat} {a w : World} (h : Upd S a w) : Upd S a w.drew := ⟨h.os, h.tape, h.output, h.size, h.block⟩
theorem Upd.drewN {S : List Nat} {a w : World} (h : Upd S a w) (n : Nat) : Upd S a (w.drewN n) := ⟨h.os, h.tape, h.output, h.size, h.block⟩

theorem Upd.alloc {S : List Nat} {a w : World} (h : Upd S a w) (o : Obj) : Upd S a (w.alloc o) :=
  h.and (S' := []) ⟨rfl, rfl, rfl, by simp, fun k hk _ => Below.heap_alloc _ _ _ hk⟩ (by simp)

theorem Upd.setCell {S : List Nat} {a w : World} (h : Upd S a w) (p : Addr) (u : Value) (hp : p.block ∈ S ∨ a.heap.size ≤ p.block) : Upd S a (w.setCell p u) :=
  h.and (S' := [p.block]) ⟨rfl, rfl, rfl, by simp [World.setCell], fun k _ hn => Below.heap_setCell _ _ _ _ (by simpa using hn)⟩ (by simpa using hp)

theorem Upd.below {a w : World} (h : Upd [] a w) : Below a.heap.size a w := ⟨h.os, h.tape, h.output, h.size, fun k hk => h.block k hk (by simp)⟩
theorem Upd.of_below {a w : World} (h : Below a.heap.size a w) : Upd [] a w := ⟨h.os, h.tape, h.output, h.size, fun k hk _ => h.block k hk⟩

theorem Blk.lt {w : World} {b : Nat} {T : TypeId} {cs : List Value} (h : Blk w b T cs) : b < w.heap.size := lt_of_block h
theorem Blk.cell {w : World} {b : Nat} {T : TypeId} {cs : List Value} (h : Blk w b T cs) (i : Nat) : w.cell? ⟨b, i, none⟩ = cs.toArray[i]? := by
  unfold Blk at h; simp [World.cell?, h]
theorem Blk.free {w : World} {b : Nat} {T : TypeId} {cs : List Value} (h : Blk w b T cs) (i : Nat) : w.frozen? ⟨b, i, none⟩ = false := by
  unfold Blk at h; simp [World.frozen?, h]
theorem Blk.upd {S : List Nat} {w w' : World} {b : Nat} {T : TypeId} {cs : List Value} (h : Blk w b T cs) (u : Upd S w w') (hb : b ∉ S) : Blk w' b T cs :=
  (u.block b h.lt hb).trans h
theorem Blk.eq {w : World} {b : Nat} {T : TypeId} {cs cs' : List Value} (h : Blk w b T cs) (e : cs = cs') : Blk w b T cs' := e ▸ h
theorem Blk.drew {w : World} {b : Nat} {T : TypeId} {cs : List Value} (h : Blk w b T cs) : Blk w.drew b T cs := h
theorem Blk.alloc {w : World} {b : Nat} {T : TypeId} {cs : List Value} (h : Blk w b T cs) (o : Obj) : Blk (w.alloc o) b T cs :=
  (Below.heap_alloc _ _ _ h.lt).trans h
theorem Blk.set {w : World} {b i : Nat} {T : TypeId} {cs : List Value} (h : Blk w b T cs) (v : Value) : Blk (w.setCell ⟨b, i, none⟩ v) b T (cs.set i v) := by
  have hlt := h.lt
  unfold Blk at h ⊢
  have h' : w.heap[b] = .cells cs.toArray T (0, 0) := by simpa [Array.getElem?_eq_getElem hlt] using h
  show (w.heap.modify b _)[b]? = _
  rw [Array.getElem?_eq_getElem (by simpa using hlt), Array.getElem_modify_self, h']
  simp
theorem Blk.far {w : World} {b i d : Nat} {T : TypeId} {cs : List Value} (h : Blk w b T cs) (v : Value) (hd : b ≠ d) : Blk (w.setCell ⟨d, i, none⟩ v) b T cs :=
  (Below.heap_setCell _ _ _ _ hd).trans h
theorem Blk.new (w : World) (T : TypeId) (cs : List Value) : Blk (w.alloc (.cells cs.toArray T (0, 0))) w.heap.size T cs := by
  show (w.heap.push _)[w.heap.size]? = _
  simp
theorem Blk.at {w : World} {B : Nat} {T : TypeId} {cs : List Value} (h : w.heap.size = B) : Blk (w.alloc (.cells cs.toArray T (0, 0))) B T cs := h ▸ Blk.new w T cs

/-- What a region that draws its order may lean on: of the blocks that w had nothing turns. -/
theorem seen_refl (w : World) : (∀ a : Addr, a.block < w.heap.size → w.cell? a = w.cell? a) ∧ Upd [] w w := ⟨fun _ _ => rfl, Upd.refl _ _⟩
theorem seen_drew (w : World) : (∀ a : Addr, a.block < w.heap.size → w.drew.cell? a = w.cell? a) ∧ Upd [] w w.drew := ⟨fun _ _ => rfl, (Upd.refl _ _).drew⟩
theorem seen_next {w w1 w2 : World} (h : (∀ a : Addr, a.block < w.heap.size → w1.cell? a = w.cell? a) ∧ Upd [] w w1) (u : Upd [] w1 w2) : (∀ a : Addr, a.block < w.heap.size → w2.cell? a = w.cell? a) ∧ Upd [] w w2 :=
  ⟨fun a ha => (World.cell?_of_block (w := w1) (u.block a.block (Nat.lt_of_lt_of_le ha h.2.size) (by simp))).trans (h.1 a ha), h.2.trans u⟩
theorem Upd.cell {S : List Nat} {w w' : World} (u : Upd S w w') {a : Addr} (ha : a.block < w.heap.size) (hs : a.block ∉ S) : w'.cell? a = w.cell? a :=
  World.cell?_of_block (w := w) (u.block a.block ha hs)

/-! ### Whole aggregates: read out of a block, stored into one -/

/-- cs with vs in place from o on. -/
def splice (cs : List Value) (o : Nat) (vs : List Value) : List Value := cs.take o ++ vs ++ cs.drop (o + vs.length)
theorem splice_cons (cs : List Value) (o : Nat) (v : Value) (vs : List Value) (h : o < cs.length) : splice (cs.set o v) (o + 1) vs = splice cs o (v :: vs) := by
  unfold splice
  rw [List.take_succ_eq_append_getElem (by simpa using h), List.getElem_set_self, List.take_set_of_le (by omega), List.drop_set_of_lt (by omega)]
  simp [Nat.add_assoc, Nat.add_comm 1]
theorem splice_all (cs vs : List Value) (h : vs.length = cs.length) : splice cs 0 vs = vs := by simp [splice, h]
theorem splice_len (cs : List Value) (o : Nat) (vs : List Value) (h : o + vs.length ≤ cs.length) : (splice cs o vs).length = cs.length := by
  simp [splice]; omega

theorem Blk.setCells {b : Nat} {T : TypeId} (vs : List Value) : ∀ {w : World} {cs : List Value} (o : Nat), Blk w b T cs → o + vs.length ≤ cs.length → Blk (w.setCells b o vs) b T (splice cs o vs) := by
  induction vs with
  | nil => intro w cs o h _; simpa [splice, World.setCells] using h
  | cons v vs ih =>
    intro w cs o h ho
    simp only [List.length_cons] at ho
    rw [← splice_cons cs o v vs (by omega)]
    exact ih (o + 1) (h.set v) (by simp; omega)
theorem Upd.setCells {S : List Nat} {a : World} {b : Nat} (vs : List Value) (hp : b ∈ S ∨ a.heap.size ≤ b) : ∀ {w : World} (o : Nat), Upd S a w → Upd S a (w.setCells b o vs) := by
  induction vs with
  | nil => intro w o h; exact h
  | cons v vs ih => intro w o h; exact ih (o + 1) (h.setCell ⟨b, o, none⟩ v hp)
theorem size_setCells {b : Nat} (vs : List Value) : ∀ (w : World) (o : Nat), (w.setCells b o vs).heap.size = w.heap.size := by
  induction vs with
  | nil => intro w o; rfl
  | cons v vs ih => intro w o; exact (ih _ (o + 1)).trans (by simp [World.setCell])

theorem Blk.range {w : World} {b : Nat} {T : TypeId} {cs : List Value} (h : Blk w b T cs) (o n : Nat) : w.rangeAt b o ((cs.drop o).take n) := fun j v hv => by
  rw [h.cell]
  rw [List.getElem?_take] at hv
  split at hv
  · rw [List.getElem?_drop] at hv; simpa using hv
  · cases hv
theorem Blk.there {w : World} {b : Nat} {T : TypeId} {cs : List Value} (h : Blk w b T cs) (o n : Nat) (hn : o + n ≤ cs.length) : w.there b o n := fun j hj => by
  rw [h.cell, h.free]
  have : o + j < cs.length := by omega
  simp [this]

theorem range_upd {w w' : World} {b o : Nat} {cs : List Value} (h : w.rangeAt b o cs) (hb : b < w.heap.size) (u : Upd [] w w') : w'.rangeAt b o cs := fun j v hv => (u.cell hb (by simp)).trans (h j v hv)
/-- As 'seen_next', with one range that a region reads. -/
theorem seenr_drew {w : World} {b o : Nat} {cs : List Value} (h : w.rangeAt b o cs) : (∀ a : Addr, a.block < w.heap.size → w.drew.cell? a = w.cell? a) ∧ Upd [] w w.drew ∧ w.drew.rangeAt b o cs :=
  ⟨fun _ _ => rfl, (Upd.refl _ _).drew, by simpa using h⟩
theorem seenr_next {w w1 w2 : World} {b o : Nat} {cs : List Value} (hb : b < w.heap.size) (h : (∀ a : Addr, a.block < w.heap.size → w1.cell? a = w.cell? a) ∧ Upd [] w w1 ∧ w1.rangeAt b o cs) (u : Upd [] w1 w2) :
    (∀ a : Addr, a.block < w.heap.size → w2.cell? a = w.cell? a) ∧ Upd [] w w2 ∧ w2.rangeAt b o cs :=
  ⟨fun a ha => (u.cell (Nat.lt_of_lt_of_le ha h.2.1.size) (by simp)).trans (h.1 a ha), h.2.1.trans u, range_upd h.2.2 (Nat.lt_of_lt_of_le hb h.2.1.size) u⟩

section
variable {P : Program} {ops : Array Oper} {rest : List Oper} {op : Oper} {a : Act} {w : World} {Q : Exit → Act → World → Prop}

/-- A load of n cells from offset o on. -/
theorem wpList_load_blk (hgd : Region.wanted op (yielded ops a.tmps) = true) (ty : TypeId) (x : Operand) (ho : op.op = .load ty x) {b o : Nat} {T : TypeId} {cs : List Value} (hb : Blk w b T cs)
    (hx : a.eval x = .pointer (some ⟨b, o, none⟩)) (n : Nat) (d : TypeDesc) (hu : P.underlying ty = some d) (hd : d.isRow = true) (hi : (P.info? ty).map (·.size) = some n) (hn : o + n ≤ cs.length)
    (h : wpList P ops Q rest (a.put op.dst (.agg ((cs.drop o).take n).toArray)) w) : wpList P ops Q (op :: rest) a w :=
  BigFrame.wpList_want hgd fun _ hK => wp_load_mid ty x ho b o hx _ d (hb.range o n) hu hd (by rw [hi]; simp; omega) (hK _ _ h)
/-- A load of the whole block. -/
theorem wpList_load_all (hgd : Region.wanted op (yielded ops a.tmps) = true) (ty : TypeId) (x : Operand) (ho : op.op = .load ty x) {b : Nat} {T : TypeId} {cs : List Value} (hb : Blk w b T cs)
    (hx : a.eval x = .pointer (some ⟨b, 0, none⟩)) (n : Nat) (d : TypeDesc) (hu : P.underlying ty = some d) (hd : d.isRow = true) (hi : (P.info? ty).map (·.size) = some n) (hn : cs.length = n)
    (h : wpList P ops Q rest (a.put op.dst (.agg cs.toArray)) w) : wpList P ops Q (op :: rest) a w :=
  wpList_load_blk hgd ty x ho hb hx n d hu hd hi (by omega) (by subst hn; simpa using h)
/-- A load of a part, told as a list of its own. -/
theorem wpList_load_sub (hgd : Region.wanted op (yielded ops a.tmps) = true) (ty : TypeId) (x : Operand) (ho : op.op = .load ty x) {b o : Nat} {T : TypeId} {cs : List Value} (hb : Blk w b T cs)
    (hx : a.eval x = .pointer (some ⟨b, o, none⟩)) (vs : List Value) (d : TypeDesc) (hu : P.underlying ty = some d) (hd : d.isRow = true) (hi : (P.info? ty).map (·.size) = some vs.length) (hn : o + vs.length ≤ cs.length) (hv : (cs.drop o).take vs.length = vs)
    (h : wpList P ops Q rest (a.put op.dst (.agg vs.toArray)) w) : wpList P ops Q (op :: rest) a w :=
  wpList_load_blk hgd ty x ho hb hx vs.length d hu hd hi hn (by rw [hv]; exact h)
/-- A store of as many cells as vs has, from offset o on. -/
theorem wpList_store_blk (hgd : Region.wanted op (yielded ops a.tmps) = true) (ty : TypeId) (x y : Operand) (ho : op.op = .store ty x y) {b o : Nat} {T : TypeId} {cs : List Value} (hb : Blk w b T cs)
    (hx : a.eval x = .pointer (some ⟨b, o, none⟩)) (vs : List Value) (hy : a.eval y = .agg vs.toArray) (n : Nat) (hi : (P.info? ty).map (·.size) = some n) (hl : vs.length = n) (hn : o + n ≤ cs.length) (h1 : ∀ v ∈ vs, v.oneCell' = true)
    (h : ∀ w', Blk w' b T (splice cs o vs) → Upd [b] w w' → w'.heap.size = w.heap.size → wpList P ops Q rest (a.put op.dst undef) w') : wpList P ops Q (op :: rest) a w :=
  BigFrame.wpList_want hgd fun _ hK => wp_store_mid ty x y ho b o vs.toArray hx hy (by simpa [hl] using hb.there o n hn) (by simpa [hl] using hi) (all_oneCell_toArray h1)
    (hK _ _ (h _ (hb.setCells vs o (by omega)) (Upd.setCells vs (Or.inl (by simp)) o (Upd.refl _ _)) (size_setCells vs _ _)))
/-- A store of a whole block. -/
theorem wpList_store_all (hgd : Region.wanted op (yielded ops a.tmps) = true) (ty : TypeId) (x y : Operand) (ho : op.op = .store ty x y) {b : Nat} {T : TypeId} {cs : List Value} (hb : Blk w b T cs)
    (hx : a.eval x = .pointer (some ⟨b, 0, none⟩)) (vs : List Value) (hy : a.eval y = .agg vs.toArray) (n : Nat) (hi : (P.info? ty).map (·.size) = some n) (hl : vs.length = n) (hn : cs.length = n) (h1 : ∀ v ∈ vs, v.oneCell' = true)
    (h : ∀ w', Blk w' b T vs → Upd [b] w w' → w'.heap.size = w.heap.size → wpList P ops Q rest (a.put op.dst undef) w') : wpList P ops Q (op :: rest) a w :=
  wpList_store_blk hgd ty x y ho hb hx vs hy n hi hl (by omega) h1 (fun w' hB => h w' (by rwa [splice_all _ _ (by omega)] at hB))
end

section
variable {P : Program} {w : World}
theorem loadVar_blk {b : Nat} {T : TypeId} {cs : List Value} (hb : Blk w b T cs) {ty : TypeId} {n : Nat} {d : TypeDesc} (hu : P.underlying ty = some d) (hd : d.isRow = true) (hi : (P.info? ty).map (·.size) = some n) (hn : cs.length = n) :
    (loadVar ty ⟨b, 0, none⟩).run P w = .ok (.agg cs.toArray) w := by
  have := run_loadVar_mid (P := P) w b 0 ty ((cs.drop 0).take n) d (hb.range 0 n) hu hd (by rw [hi]; simp; omega)
  subst hn
  simpa using this
/-- One result that lies in a block. -/
theorem results_blk {fn : Func} {p : Tmp} {ty : TypeId} (h : fn.results = #[.cell p ty]) (tmps : Array Value) {b : Nat} {T : TypeId} {cs : List Value} (hb : Blk w b T cs) (hp : tmps.getD p undef = .pointer (some ⟨b, 0, none⟩)) {n : Nat} {d : TypeDesc}
    (hu : P.underlying ty = some d) (hd : d.isRow = true) (hi : (P.info? ty).map (·.size) = some n) (hn : cs.length = n) : (results fn tmps).run P w = .ok (.agg cs.toArray) w := by
  have hp' : tmps[p]?.getD undef = .pointer (some ⟨b, 0, none⟩) := by simpa using hp
  simp [results, h, hp', asAddr, loadVar_blk hb hu hd hi hn]
/-- A result that lies in a block, and one in a slot. -/
theorem results_blk_tmp {fn : Func} {p q : Tmp} {ty : TypeId} (h : fn.results = #[.cell p ty, .tmp q]) (tmps : Array Value) {b : Nat} {T : TypeId} {cs : List Value} (hb : Blk w b T cs) (hp : tmps.getD p undef = .pointer (some ⟨b, 0, none⟩)) {n : Nat} {d : TypeDesc}
    (hu : P.underlying ty = some d) (hd : d.isRow = true) (hi : (P.info? ty).map (·.size) = some n) (hn : cs.length = n) : (results fn tmps).run P w = .ok (.tuple #[.agg cs.toArray, tmps.getD q undef]) w := by
  have hp' : tmps[p]?.getD undef = .pointer (some ⟨b, 0, none⟩) := by simpa using hp
  simp [results, h, hp', asAddr, loadVar_blk hb hu hd hi hn]
end

/-! ### Structs out of parts -/
theorem foldl_splice (vs : List Value) : ∀ (cs : List Value) (off k : Nat), off + k + vs.length ≤ cs.length →
    (vs.zipIdx k).foldl (fun (a : Array Value) (x : Value × Nat) => a.setIfInBounds (off + x.2) x.1) cs.toArray = (splice cs (off + k) vs).toArray := by
  induction vs with
  | nil => intro cs off k h; simp [splice]
  | cons v vs ih =>
    intro cs off k h
    simp only [List.length_cons] at h
    rw [List.zipIdx_cons, List.foldl_cons, ← splice_cons cs (off + k) v vs (by omega)]
    simp only [List.setIfInBounds_toArray]
    exact ih (cs.set (off + k) v) off (k + 1) (by simp; omega)

/-- Parts laid into cells, said of lists. -/
def fillList (place : Nat → Option (Nat × Nat)) (cells : List Value) : List (Nat × Value) → Option (List Value)
  | [] => some cells
  | (i, v) :: rest =>
    match place i with
    | none => none
    | some (off, size) => if v.cells.size = size ∧ off + size ≤ cells.length then fillList place (splice cells off v.cells.toList) rest else none
theorem fill_list (place : Nat → Option (Nat × Nat)) (ps : List (Nat × Value)) : ∀ (cells cs : List Value), fillList place cells ps = some cs → Instr.fill place cells.toArray ps = some cs.toArray := by
  induction ps with
  | nil => intro cells cs h; simp only [fillList, Option.some.injEq] at h; simp [Instr.fill, h]
  | cons p ps ih =>
    intro cells cs h
    obtain ⟨i, v⟩ := p
    simp only [fillList] at h
    simp only [Instr.fill]
    cases hp : place i with
    | none => simp [hp] at h
    | some os =>
      obtain ⟨off, size⟩ := os
      simp only [hp] at h
      split at h
      · rename_i hc
        obtain ⟨h1, h2⟩ := hc
        have e := foldl_splice v.cells.toList cells off 0 (by simp; omega)
        simp only [← Array.foldl_toList] at e ⊢
        rw [if_neg (by simp; omega)]
        have e2 : v.cells.zipIdx.toList = v.cells.toList.zipIdx := by simp
        rw [e2]
        simp only [Nat.add_zero] at e
        rw [e]
        exact ih _ _ h
      · cases h

/-- A struct out of parts, some of them aggregates. -/
theorem wpList_build {P : Program} {ops : Array Oper} {rest : List Oper} {op : Oper} {a : Act} {w : World} {Q : Exit → Act → World → Prop} (hgd : op.guard = none) (t : TypeId) (ps : List (Nat × Operand)) (ho : op.op = .build t ps.toArray)
    (vs : List (Nat × Value)) (hv : (ps.map fun p => (p.1, a.eval p.2)) = vs) (fs : Array Field) (hu : P.underlying t = some (.struct fs)) (zs : List Value) (hz : ∀ w, (zeroValue t).run P w = .ok (.agg zs.toArray) w)
    (pl : Array (Nat × Nat)) (hp : ∀ w, (fs.mapM fun f => do pure (f.offset, ← sizeOf f.type) : Sem (Array (Nat × Nat))).run P w = .ok pl w) (cs : List Value) (hf : fillList (pl[·]?) zs vs = some cs)
    (h : wpList P ops Q rest (a.put op.dst (.agg cs.toArray)) w) : wpList P ops Q (op :: rest) a w :=
  wpList_plain hgd fun _ hK => by
    have hr : (Instr.build t vs.toArray).run P w = .ok (.agg cs.toArray) w := by
      simp only [Instr.build, Sem.run_bind, hz, Result.andThen_ok, run_underlying hu, hp, Value.cells, fill_list _ _ _ _ hf, Sem.run_pure]
    unfold Oper.wp execOp
    simp only [ho]
    have hv' : (ps.toArray.map fun (i, x) => (i, a.eval x)) = vs.toArray := by rw [← hv]; simp
    simp only [hv', Sem.run_bind, hr, Result.andThen_ok, Sem.run_pure]
    exact hK _ _ h


end Go.Proofs.YtbkegflipglioaaGreat
