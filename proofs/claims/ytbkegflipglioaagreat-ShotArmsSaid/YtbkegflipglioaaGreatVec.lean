/- Slices that are read: how many elements, and their cells in a row. -/
import Derived.Test.YtbkegflipglioaaGreatBase
import Derived.OwnWalk
import Derived.Great.BuildSlice
import Derived.Laws.Tables
import Derived.RegionTactic
set_option maxRecDepth 20000
namespace Go.Proofs.YtbkegflipglioaaGreat
open Go.RowKit

/-- A fact that the walk does not look into. -/
structure Held (p : Prop) : Prop where
  out : p
/-- v is a slice of n elements whose cells, one behind the other, are 'cells'. -/
def Vec (w : World) (v : Value) (n : Nat) (cells : List Value) : Prop :=
  ∃ (a : Option Addr) (cap : Nat), v = .slice a n cap ∧ n ≤ cap ∧ cap ≤ maxLen ∧ (cells = [] ∨ ∃ b o, a = some ⟨b, o, none⟩ ∧ b < w.heap.size ∧ ∀ j u, cells[j]? = some u → w.cell? ⟨b, o + j, none⟩ = some u)

theorem Vec.upd {w w' : World} {v : Value} {n : Nat} {cells : List Value} (h : Vec w v n cells) (u : Upd [] w w') : Vec w' v n cells := by
  obtain ⟨a, cap, h1, h2, h3, h4⟩ := h
  refine ⟨a, cap, h1, h2, h3, ?_⟩
  rcases h4 with h4 | ⟨b, o, ha, hb, hc⟩
  · exact Or.inl h4
  · exact Or.inr ⟨b, o, ha, Nat.lt_of_lt_of_le hb u.size, fun j x hx => (u.cell hb (by simp)).trans (hc j x hx)⟩

theorem Blk.get {w : World} {b : Nat} {T : TypeId} {cs : List Value} (h : Blk w b T cs) (i : Nat) {v : Value} (hv : cs[i]? = some v) : w.cell? ⟨b, i, none⟩ = some v := by rw [h.cell]; simpa using hv
theorem Upd.grown {S : List Nat} {a w w' : World} {row : Option Nat} (h : Upd S a w) (hg : w.grownBy w' row) (hr : ∀ k, row = some k → k ∈ S ∨ a.heap.size ≤ k) : Upd S a w' :=
  ⟨hg.os.trans h.os, hg.tape.trans h.tape, hg.output.trans h.output, Nat.le_trans h.size hg.size, fun k hk hs => by
    rw [hg.block k (Nat.lt_of_lt_of_le hk h.size) (fun e => by rcases hr k e.symm with h' | h'; exact hs h'; omega)]
    exact h.block k hk hs⟩

/-- The block of an owned row lies at or behind the base. -/
theorem own_block {w : World} {base : Nat} {e : TypeId} {size : Nat} {v : Value} {n : Nat} {xs : List Value} (h : w.ownsRow base e size v n xs) : ∀ k, v.ownBlock = some k → base ≤ k := by
  intro k hk
  rcases h.2 with ⟨rfl, _⟩ | ⟨g, cap, cur, rfl, hg, _⟩
  · simp [Value.ownBlock] at hk
  · simp [Value.ownBlock] at hk; omega

theorem Upd.push {S : List Nat} {a w w' : World} (h : Upd S a w) {e : TypeId} {size : Nat} {v : Value} {n : Nat} {xs : List Value} (ho : w.ownsRow a.heap.size e size v n xs) (hg : w.grownBy w' v.ownBlock) : Upd S a w' := h.grown hg (fun j hj => Or.inr (own_block ho j hj))
theorem maxLen_eq : maxLen = 9223372036854775807 := by decide
theorem wrap64_small (n : Int) (h : -9223372036854775808 ≤ n ∧ n ≤ 9223372036854775807) : wrap64 n = n := by unfold wrap64; omega
theorem vec_of_own {w : World} {base : Nat} {e : TypeId} {size : Nat} {v : Value} {n : Nat} {xs : List Value} (h : w.ownsRow base e size v n xs) : Vec w v n xs := by
  obtain ⟨hl, h2⟩ := h
  rcases h2 with ⟨rfl, h0⟩ | ⟨g, cap, cur, rfl, hg, hh, hn, hm, hs, ht⟩
  · refine ⟨none, 0, by rw [h0], by omega, by simp, Or.inl ?_⟩
    rw [h0] at hl
    exact List.length_eq_zero_iff.1 (by omega)
  · refine ⟨some ⟨g, 0, none⟩, cap, rfl, hn, hm, Or.inr ⟨g, 0, rfl, lt_of_block hh, fun j u hj => ?_⟩⟩
    rw [← ht, List.getElem?_take] at hj
    split at hj
    · simp only [World.cell?, hh, Nat.zero_add]
      simpa using hj
    · cases hj

theorem own_upd {w w' : World} {base : Nat} {e : TypeId} {size : Nat} {v : Value} {n : Nat} {xs : List Value} {S : List Nat} (h : w.ownsRow base e size v n xs) (u : Upd S w w') (hs : ∀ k, v.ownBlock = some k → k ∉ S) : w'.ownsRow base e size v n xs := by
  obtain ⟨hl, h2⟩ := h
  refine ⟨hl, ?_⟩
  rcases h2 with h0 | ⟨g, cap, cur, rfl, hg, hh, r⟩
  · exact Or.inl h0
  · exact Or.inr ⟨g, cap, cur, rfl, hg, (u.block g (lt_of_block hh) (hs g rfl)).trans hh, r⟩
theorem own_upd0 {w w' : World} {base : Nat} {e : TypeId} {size : Nat} {v : Value} {n : Nat} {xs : List Value} (h : w.ownsRow base e size v n xs) (u : Upd [] w w') : w'.ownsRow base e size v n xs := own_upd h u (by simp)
/-- A block as a row of the call's own. -/
theorem own_of_blk {w : World} {base : Nat} {e : TypeId} {size : Nat} {n g : Nat} {xs : List Value} (hB : Blk w g e xs) (hg : base ≤ g) (hl : xs.length = n * size) (hn : n ≤ maxLen) : w.ownsRow base e size (.slice (some ⟨g, 0, none⟩) n n) n xs :=
  ⟨hl, Or.inr ⟨g, n, xs.toArray, rfl, hg, hB, Nat.le_refl _, hn, by simpa using hl, by rw [← hl]; simp⟩⟩
theorem own_nil (w : World) (base : Nat) (e : TypeId) (size : Nat) : w.ownsRow base e size (.slice none 0 0) 0 [] := ⟨by simp, Or.inl ⟨rfl, rfl⟩⟩

/-- 'append' to a row that the call itself owns: the element type's row of the table as one closed fact. -/
theorem wpList_app {P : Program} {w : World} {ops : Array Oper} {rest : List Oper} {o : Oper} {a : Act} {Q : Exit → Act → World → Prop} (hgd : o.guard = none) (s x : Operand) (t : TypeId)
    (ho : o.op = .call { callee := .builtin .append, args := #[s, x], argTypes := #[t, t] })
    (base : Nat) (e : TypeId) {z : Value} {size bytes : Nat} (hI : (P.info? e).map (fun i => (i.zero, i.size, i.bytes)) = some (some z, size, bytes)) (ht : P.underlying t = some (.slice e)) (hzs : z.cells.size = size) (hsz : 0 < size)
    {v : Value} {n : Nat} {xs : List Value} (hs : a.eval s = v) (hown : w.ownsRow base e size v n xs)
    {ad : Addr} {m c : Nat} {news : List Value} (hx : a.eval x = .slice (some ad) m c) (hl : news.length = m * size) (hnews : ∀ j u, news[j]? = some u → w.cell? (ad.add j) = some u) (h1 : ∀ u ∈ news, u.oneCell' = true)
    (h63 : n + m ≤ maxLen) (hbytes : (n + m) * bytes ≤ 140737488355328) (hbase : base ≤ w.heap.size)
    (h : ∀ v' w', w'.ownsRow base e size v' (n + m) (xs ++ news) → w.grownBy w' v.ownBlock → wpList P ops Q rest (a.put o.dst v') w') : wpList P ops Q (o :: rest) a w := by
  obtain ⟨i, hi, hz0, hz1, hz2⟩ := info_parts hI
  exact wpList_append_own w hgd s x t ho base e i z size bytes ht hi hz0 hz1 hz2 hzs hsz v n xs hs hown ad m c news hx hl hnews h1 h63 hbytes hbase fun v' w' h2 h3 _ => h v' w' h2 h3

/-- A slice literal whose places are all written, in order. -/
theorem wpList_slit {P : Program} {w : World} {ops : Array Oper} {rest : List Oper} {o : Oper} {a : Act} {Q : Exit → Act → World → Prop} (hgd : o.guard = none) (t e : TypeId) (len : Nat) (ps : List (Nat × Operand))
    (ho : o.op = .buildSlice t len ps.toArray) {z : Value} {size bytes : Nat} (hI : (P.info? e).map (fun i => (i.zero, i.size, i.bytes)) = some (some z, size, bytes)) (ht : P.underlying t = some (.slice e))
    (hzs : z.cells.size = size) (hsz : 0 < size) (vs : List Value) (hv : (ps.map fun p => (p.1, a.eval p.2)) = (vs.zipIdx 0).map fun x => (x.2, x.1)) (hlen : vs.length = len) (hpos : 0 < len) (hsm : len * size ≤ 16777216)
    (hvs : ∀ v ∈ vs, v.cells.size = size)
    (h : wpList P ops Q rest (a.put o.dst (.slice (some ⟨w.heap.size, 0, none⟩) len len)) (w.alloc (.cells (vs.flatMap (·.cells.toList)).toArray e))) : wpList P ops Q (o :: rest) a w := by
  obtain ⟨i, hi, hz0, hz1, hz2⟩ := info_parts hI
  refine wpList_buildSlice hgd t e len _ ho _ i z ht hi hz0 (by rw [hz1]; omega) (by rw [hz1]; intro h0; rcases Nat.mul_eq_zero.1 h0 with h1 | h1 <;> omega) ?_ h
  have e1 : (ps.toArray.map fun (x : Nat × Operand) => (x.1, a.eval x.2)).toList = (vs.zipIdx 0).map fun x => (x.2, x.1) := by rw [← hv]; simp
  have e2 : (ps.toArray.map fun (i, x) => (i, a.eval x)).toList = (vs.zipIdx 0).map fun x => (x.2, x.1) := e1
  rw [e2, hz1]
  exact Great.fill_whole hsz vs _ hvs (by simp [hlen])

/-- A composite whose parts and cells are closed. -/
theorem wpList_bld {P : Program} {w : World} {ops : Array Oper} {rest : List Oper} {o : Oper} {a : Act} {Q : Exit → Act → World → Prop} (hg : o.guard = none) (t : TypeId) (parts : Array (Nat × Operand)) (ho : o.op = .build t parts)
    {vs : List (Nat × Value)} {cells : Array Value} (hc : P.built t vs = some cells) (hv : (parts.toList.map fun x => (x.1, a.eval x.2)) = vs)
    (h : wpList P ops Q rest (a.put o.dst (.agg cells)) w) : wpList P ops Q (o :: rest) a w := by
  have e : (parts.map fun (i, x) => (i, a.eval x)).toList = vs := by rw [← hv]; simp
  refine Go.wpList_build hg t parts ho (by rw [e, hc]; rfl) ?_
  rw [e, hc]
  exact h

/-- A new variable of many cells. -/
theorem wpList_alc {P : Program} {w : World} {ops : Array Oper} {rest : List Oper} {o : Oper} {a : Act} {Q : Exit → Act → World → Prop} (hg : o.guard = none) (ty : TypeId) (ho : o.op = .alloc ty)
    (zs : List Value) (hz : (P.info? ty).bind (·.zero) = some (.agg zs.toArray))
    (h : ∀ w', Blk w' w.heap.size ty zs → Upd [] w w' → w'.heap.size = w.heap.size + 1 → wpList P ops Q rest (a.put o.dst (.pointer (some ⟨w.heap.size, 0, none⟩))) w') : wpList P ops Q (o :: rest) a w := by
  refine wpList_plain hg fun K hK => ?_
  obtain ⟨i, hi, hz'⟩ := Option.bind_eq_some_iff.1 hz
  have hr : ∀ w, (zeroValue ty).run P w = .ok (.agg zs.toArray) w := by intro w; simp [zeroValue, typeInfo, hi, hz']
  have hB : Blk (w.alloc (.cells zs.toArray ty)) w.heap.size ty zs := heap_alloc_new w _
  have hU : Upd [] w (w.alloc (.cells zs.toArray ty)) := by (repeat (first | exact Upd.refl _ _ | refine Upd.drew ?_ | refine Upd.drewN ?_ _ | refine Upd.setCell ?_ _ _ (by simp) | refine Upd.alloc ?_ _))
  have hs : (w.alloc (.cells zs.toArray ty)).heap.size = w.heap.size + 1 := by simp
  have := hK _ _ (h _ hB hU hs)
  unfold Oper.wp
  simp [execOp, ho, hr, Instr.alloc, Result.andThen, Value.cells]
  exact this

/-- A new variable of one cell. -/
theorem wpList_var {P : Program} {w : World} {ops : Array Oper} {rest : List Oper} {o : Oper} {a : Act} {Q : Exit → Act → World → Prop} (hg : o.guard = none) (ty : TypeId) (ho : o.op = .alloc ty)
    (z : Value) (hz : (P.info? ty).bind (·.zero) = some z) (h1 : z.oneCell' = true)
    (h : ∀ w', Blk w' w.heap.size ty [z] → Upd [] w w' → w'.heap.size = w.heap.size + 1 → wpList P ops Q rest (a.put o.dst (.pointer (some ⟨w.heap.size, 0, none⟩))) w') : wpList P ops Q (o :: rest) a w := by
  refine wpList_plain hg fun K hK => ?_
  obtain ⟨i, hi, hz'⟩ := Option.bind_eq_some_iff.1 hz
  have hr : ∀ w, (zeroValue ty).run P w = .ok z w := by intro w; simp [zeroValue, typeInfo, hi, hz']
  have hc : z.cells = #[z] := by cases z <;> first | rfl | (simp [Value.oneCell'] at h1)
  have hB : Blk (w.alloc (.cells #[z] ty)) w.heap.size ty [z] := heap_alloc_new w _
  have hU : Upd [] w (w.alloc (.cells #[z] ty)) := by (repeat (first | exact Upd.refl _ _ | refine Upd.drew ?_ | refine Upd.drewN ?_ _ | refine Upd.setCell ?_ _ _ (by simp) | refine Upd.alloc ?_ _))
  have hs : (w.alloc (.cells #[z] ty)).heap.size = w.heap.size + 1 := by simp
  have := hK _ _ (h _ hB hU hs)
  unfold Oper.wp
  cases z <;> first | (simp [Value.oneCell'] at h1; done) | (simp [execOp, ho, hr, Instr.alloc, Result.andThen, newVar, Value.cells]; exact this)
/-- A store of one cell. -/
theorem wp_put {P : Program} {w : World} {op : Oper} {a : Act} {K : Act → World → Prop} {Q : Exit → Act → World → Prop} (ty : TypeId) (x y : Operand) (ho : op.op = .store ty x y) {b o : Nat} {T : TypeId} {cs : List Value} (hb : Blk w b T cs)
    (hx : a.eval x = .pointer (some ⟨b, o, none⟩)) (v : Value) (hy : a.eval y = v) (h1 : v.oneCell' = true) (hi : (P.info? ty).map (·.size) = some 1) (hn : o < cs.length)
    (h : ∀ w', Blk w' b T (cs.set o v) → Upd [b] w w' → w'.heap.size = w.heap.size → K (a.put op.dst undef) w') : op.wp P a w K Q := by
  have ht := hb.there o 1 (by omega)
  have hc : v.cells = #[v] := by cases v <;> first | rfl | (simp [Value.oneCell'] at h1)
  have hst := run_storeCells_cells (P := P) b o [v] 0 w (fun j hj => by simpa using (ht j (by simpa using hj)).1) (fun j hj => by simpa using (ht j (by simpa using hj)).2) (by simpa using h1)
  have hrun : (storeVar ty ⟨b, o, none⟩ v).run P w = .ok () (w.setCells b o [v]) := by
    cases hq : P.info? ty with
    | none => simp [hq] at hi
    | some i =>
      have hs : i.size = 1 := by simp [hq] at hi; omega
      simp only [Nat.add_zero] at hst
      simp [storeVar, sizeOf, typeInfo, hq, hc, hs, hst]
  unfold Oper.wp execOp
  simp only [ho, hx, hy, Instr.storeAt, Instr.sureAddr, Sem.run_bind, Sem.run_pure, Result.andThen_ok, hrun]
  have e : w.setCells b o [v] = w.setCell ⟨b, o, none⟩ v := rfl
  rw [e]
  exact h _ (hb.set v) ((Upd.refl _ _).setCell _ _ (Or.inl (by simp))) (by simp)
theorem wpList_put {P : Program} {w : World} {ops : Array Oper} {rest : List Oper} {op : Oper} {a : Act} {Q : Exit → Act → World → Prop} (hg : op.guard = none) (ty : TypeId) (x y : Operand) (ho : op.op = .store ty x y) {b o : Nat} {T : TypeId} {cs : List Value} (hb : Blk w b T cs)
    (hx : a.eval x = .pointer (some ⟨b, o, none⟩)) (v : Value) (hy : a.eval y = v) (h1 : v.oneCell' = true) (hi : (P.info? ty).map (·.size) = some 1) (hn : o < cs.length)
    (h : ∀ w', Blk w' b T (cs.set o v) → Upd [b] w w' → w'.heap.size = w.heap.size → wpList P ops Q rest (a.put op.dst undef) w') : wpList P ops Q (op :: rest) a w :=
  wpList_plain hg fun K hK => wp_put ty x y ho hb hx v hy h1 hi hn fun w' h2 h3 h4 => hK _ _ (h w' h2 h3 h4)

/-- An element of an array value, the element being an aggregate. -/
theorem wpList_idx {P : Program} {w : World} {ops : Array Oper} {rest : List Oper} {o : Oper} {a : Act} {Q : Exit → Act → World → Prop} (hg : o.guard = none) (t : TypeId) (x i : Operand) (ho : o.op = .index t x i)
    {n e sz : Nat} (hu : P.underlying t = some (.array n e)) (hsz : (P.info? e).map (·.size) = some sz) {d : TypeDesc} (hd : P.underlying e = some d) (hr : d.isRow = true)
    (cs : Array Value) (hx : a.eval x = .agg cs) {kd : IntKind} {I : Int} (j : Nat) (hi : a.eval i = .int kd I) (hI : I = (j : Int)) (hj : j < n)
    (h : wpList P ops Q rest (a.put o.dst (.agg (cs.extract (j * sz) (j * sz + sz)))) w) : wpList P ops Q (o :: rest) a w := by
  refine wpList_plain hg fun K hK => ?_
  subst hI
  have hs : ∀ w, (sizeOf e).run P w = .ok sz w := by
    intro w
    cases hq : P.info? e with
    | none => simp [hq] at hsz
    | some q => simp [hq] at hsz; simp [sizeOf, typeInfo, hq, hsz]
  have ha : ∀ w, (isAgg e).run P w = .ok true w := by
    intro w
    cases d <;> simp [TypeDesc.isRow] at hr <;> simp [isAgg, run_underlying hd]
  have := hK _ _ h
  unfold Oper.wp
  simp [execOp, ho, hx, hi, Instr.index, asIntOf, run_underlying hu, part, hs, ha, hj, Result.andThen]
  exact this

/-! A region that draws its order, one operation at a time. -/
section
variable {P : Program} {md : Region.Mode} {ops : Array Oper} {Q : Exit → Act → World → Prop} {fuel : Nat} {listed : Array Bool} {a : Act} {w : World}
theorem any1 (i : Nat) {o : Oper} (hr : Region.ready md ops listed = [i]) (ho : ops[i]? = some o) (hg : o.guard = none)
    (h : ∀ K : Act → World → Prop, (∀ a w, wpAny P md ops Q fuel (listed.setIfInBounds i true) a w → K a w) → Oper.wp P o a w K Q) : wpAny P md ops Q (fuel + 1) listed a w :=
  wpAny_ready hr (by simp) (AllReady.cons ho (fun K hK => by rw [if_pos (by simp [Region.wanted, hg])]; exact h K hK) AllReady.nil)
theorem any2 (i j : Nat) {o p : Oper} (hr : Region.ready md ops listed = [i, j]) (ho : ops[i]? = some o) (hg : o.guard = none) (hp : ops[j]? = some p) (hgp : p.guard = none)
    (h : ∀ K : Act → World → Prop, (∀ a w, wpAny P md ops Q fuel (listed.setIfInBounds i true) a w → K a w) → Oper.wp P o a w K Q)
    (h2 : ∀ K : Act → World → Prop, (∀ a w, wpAny P md ops Q fuel (listed.setIfInBounds j true) a w → K a w) → Oper.wp P p a w K Q) : wpAny P md ops Q (fuel + 1) listed a w :=
  wpAny_ready hr (by simp) (AllReady.cons ho (fun K hK => by rw [if_pos (by simp [Region.wanted, hg])]; exact h K hK) (AllReady.cons hp (fun K hK => by rw [if_pos (by simp [Region.wanted, hgp])]; exact h2 K hK) AllReady.nil))
end
/-- 'append' to the call's own row, as one operation. -/
theorem wp_app {P : Program} {w : World} {o : Oper} {a : Act} {K : Act → World → Prop} {Q : Exit → Act → World → Prop} (s x : Operand) (t : TypeId)
    (ho : o.op = .call { callee := .builtin .append, args := #[s, x], argTypes := #[t, t] })
    (base : Nat) (e : TypeId) {z : Value} {size bytes : Nat} (hI : (P.info? e).map (fun i => (i.zero, i.size, i.bytes)) = some (some z, size, bytes)) (ht : P.underlying t = some (.slice e)) (hzs : z.cells.size = size) (hsz : 0 < size)
    {v : Value} {n : Nat} {xs : List Value} (hown : w.ownsRow base e size v n xs) (hs : a.eval s = v)
    {ad : Addr} {m c : Nat} {news : List Value} (hx : a.eval x = .slice (some ad) m c) (hl : news.length = m * size) (hnews : ∀ j u, news[j]? = some u → w.cell? (ad.add j) = some u) (h1 : ∀ u ∈ news, u.oneCell' = true)
    (h63 : n + m ≤ maxLen) (hbytes : (n + m) * bytes ≤ 140737488355328) (hbase : base ≤ w.heap.size)
    (h : ∀ v' w', w'.ownsRow base e size v' (n + m) (xs ++ news) → w.grownBy w' v.ownBlock → K (a.put o.dst v') w') : o.wp P a w K Q := by
  obtain ⟨i, hi, hz0, hz1, hz2⟩ := info_parts hI
  exact wp_append_own w s x t ho base e i z size bytes ht hi hz0 hz1 hz2 hzs hsz v n xs hs hown ad m c news hx hl hnews h1 h63 hbytes hbase fun v' w' h2 h3 _ => h v' w' h2 h3
theorem wp_app_none {P : Program} {w : World} {o : Oper} {a : Act} {K : Act → World → Prop} {Q : Exit → Act → World → Prop} (s x : Operand) (t : TypeId)
    (ho : o.op = .call { callee := .builtin .append, args := #[s, x], argTypes := #[t, t] })
    (base : Nat) (e : TypeId) {z : Value} {size bytes : Nat} (hI : (P.info? e).map (fun i => (i.zero, i.size, i.bytes)) = some (some z, size, bytes)) (ht : P.underlying t = some (.slice e))
    {v : Value} {n : Nat} {xs : List Value} (hown : w.ownsRow base e size v n xs) (hs : a.eval s = v) (hx : a.eval x = .slice none 0 0)
    (h : K (a.put o.dst v) w) : o.wp P a w K Q := by
  obtain ⟨i, hi, hz0, hz1, hz2⟩ := info_parts hI
  have hrun := run_append_owned_none (P := P) (w := w) base t o.type e i size ht hi v n xs hown
  unfold Oper.wp
  simp [execOp, ho, resolve, invoke, builtin, hs, hx, hrun, Result.andThen]
  exact h

/-! Guards: 'with_reducible refine at_.. ?_' fails at once where another operation stands. -/
section
variable {P : Program} {ops : Array Oper} {Q : Exit → Act → World → Prop} {rest : List Oper} {a : Act} {w : World} {dst : Option Tmp} {ty : TypeId} {pos : String} {after : Array Edge}
theorem at_slit {t : TypeId} {len : Nat} {ps : Array (Nat × Operand)} (h : wpList P ops Q (⟨dst, .buildSlice t len ps, ty, pos, after, none⟩ :: rest) a w) : wpList P ops Q (⟨dst, .buildSlice t len ps, ty, pos, after, none⟩ :: rest) a w := h
theorem at_push {d1 d2 t x s t2 ty1 ty2 p1 p2 f1 f2} (h : wpList P ops Q (⟨some d1, .buildSlice t 1 #[(0, x)], ty1, p1, f1, none⟩ :: ⟨d2, .call { callee := .builtin .append, args := #[s, .tmp d1], argTypes := #[t2, t2] }, ty2, p2, f2, none⟩ :: rest) a w) :
    wpList P ops Q (⟨some d1, .buildSlice t 1 #[(0, x)], ty1, p1, f1, none⟩ :: ⟨d2, .call { callee := .builtin .append, args := #[s, .tmp d1], argTypes := #[t2, t2] }, ty2, p2, f2, none⟩ :: rest) a w := h
theorem at_build {t : TypeId} {ps : Array (Nat × Operand)} (h : wpList P ops Q (⟨dst, .build t ps, ty, pos, after, none⟩ :: rest) a w) : wpList P ops Q (⟨dst, .build t ps, ty, pos, after, none⟩ :: rest) a w := h
theorem at_alloc (t : TypeId) (h : wpList P ops Q (⟨dst, .alloc t, ty, pos, after, none⟩ :: rest) a w) : wpList P ops Q (⟨dst, .alloc t, ty, pos, after, none⟩ :: rest) a w := h
theorem at_index (t : TypeId) {x i : Operand} (h : wpList P ops Q (⟨dst, .index t x i, ty, pos, after, none⟩ :: rest) a w) : wpList P ops Q (⟨dst, .index t x i, ty, pos, after, none⟩ :: rest) a w := h
theorem at_load (t : TypeId) {x : Operand} (h : wpList P ops Q (⟨dst, .load t x, ty, pos, after, none⟩ :: rest) a w) : wpList P ops Q (⟨dst, .load t x, ty, pos, after, none⟩ :: rest) a w := h
theorem at_store (t : TypeId) {x y : Operand} (h : wpList P ops Q (⟨dst, .store t x y, ty, pos, after, none⟩ :: rest) a w) : wpList P ops Q (⟨dst, .store t x y, ty, pos, after, none⟩ :: rest) a w := h
end

/-- 'append(s, x)', ONE thing, to a row that the call itself owns: the slice literal and the append at once. -/
theorem wpList_push {P : Program} {w : World} {ops : Array Oper} {rest : List Oper} {a : Act} {Q : Exit → Act → World → Prop} {d1 : Tmp} {d2 : Option Tmp} {t ty1 ty2 : TypeId} {p1 p2 : String} {f1 f2 : Array Edge} {x s : Operand}
    (base : Nat) (e : TypeId) {z : Value} {size bytes : Nat} (hI : (P.info? e).map (fun i => (i.zero, i.size, i.bytes)) = some (some z, size, bytes)) (ht : P.underlying t = some (.slice e)) (hzs : z.cells.size = size) (hsz : 0 < size) (hsm : size ≤ 16777216)
    (V : Value) (hV : a.eval x = V) (hVs : V.cells.size = size) (hV1 : ∀ u ∈ V.cells.toList, u.oneCell' = true)
    {v : Value} {n : Nat} {xs : List Value} (hown : w.ownsRow base e size v n xs) (hs : (a.put (some d1) (.slice (some ⟨w.heap.size, 0, none⟩) 1 1)).eval s = v) (hx : (a.put (some d1) (.slice (some ⟨w.heap.size, 0, none⟩) 1 1)).eval (.tmp d1) = .slice (some ⟨w.heap.size, 0, none⟩) 1 1)
    (hbase : base ≤ w.heap.size) (hn : (n + 1) * (bytes + 1) ≤ 140737488355328)
    (h : ∀ v' w', w'.ownsRow base e size v' (n + 1) (xs ++ V.cells.toList) → w.grownBy w' v.ownBlock → wpList P ops Q rest ((a.put (some d1) (.slice (some ⟨w.heap.size, 0, none⟩) 1 1)).put d2 v') w') :
    wpList P ops Q (⟨some d1, .buildSlice t 1 #[(0, x)], ty1, p1, f1, none⟩ :: ⟨d2, .call { callee := .builtin .append, args := #[s, .tmp d1], argTypes := #[t, t] }, ty2, p2, f2, none⟩ :: rest) a w := by
  refine wpList_slit rfl t e 1 [(0, x)] rfl hI ht hzs hsz [V] (by simp [hV]) rfl (by decide) (by omega) (by simpa using hVs) ?_
  have hlt : ∀ k, v.ownBlock = some k → base ≤ k ∧ k < w.heap.size := World.ownsRow.lt hown
  have hg0 : w.grownBy (w.alloc (.cells (([V].flatMap (·.cells.toList)).toArray) e)) none := World.grownBy_alloc w _ _
  refine wpList_app rfl s (.tmp d1) t rfl base e hI ht hzs hsz (xs := xs) (news := V.cells.toList) hs (World.ownsRow.kept hown hg0 ?_) (m := 1) hx ?_ ?_ hV1 ?_ ?_ ?_ ?_
  · cases hb : v.ownBlock with
    | none => exact Or.inl rfl
    | some k => exact Or.inr (by simp)
  · simp [hVs]
  · intro j u hj
    rw [Addr.add_lit, Nat.zero_add, World.cell?_alloc_new]
    simpa using hj
  · have h1 : (n + 1) * (bytes + 1) = (n + 1) * bytes + (n + 1) := Nat.mul_succ _ _
    have h2 : (140737488355328 : Nat) ≤ maxLen := by decide
    omega
  · have h1 : (n + 1) * (bytes + 1) = (n + 1) * bytes + (n + 1) := Nat.mul_succ _ _
    omega
  · exact Nat.le_trans hbase hg0.size
  · intro v' w' ho hg
    refine h v' w' ho ⟨hg.os.trans hg0.os, hg.tape.trans hg0.tape, hg.output.trans hg0.output, Nat.le_trans hg0.size hg.size, fun k hk hne => ?_⟩
    rw [hg.block k (Nat.lt_of_lt_of_le hk hg0.size) hne, hg0.block k hk (by simp)]

theorem at_appo {P : Program} {dst ty pos after args ts} {a : Act} {w : World} {K : Act → World → Prop} {Q : Exit → Act → World → Prop} (h : Oper.wp P ⟨dst, .call { callee := .builtin .append, args := args, argTypes := ts }, ty, pos, after, none⟩ a w K Q) :
    Oper.wp P ⟨dst, .call { callee := .builtin .append, args := args, argTypes := ts }, ty, pos, after, none⟩ a w K Q := h
theorem Blk.grown {w w' : World} {b : Nat} {T : TypeId} {cs : List Value} {row : Option Nat} (h : Blk w b T cs) (hg : w.grownBy w' row) (hne : row ≠ some b) : Blk w' b T cs := (hg.block b h.lt (fun e => hne e.symm)).trans h
theorem map_one {α : Type} (f : α → Value) (h : ∀ a, (f a).oneCell' = true) (l : List α) : ∀ u ∈ l.map f, u.oneCell' = true := by
  intro u hu
  obtain ⟨a, _, rfl⟩ := List.mem_map.1 hu
  exact h a

end Go.Proofs.YtbkegflipglioaaGreat
