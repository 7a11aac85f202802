/- Tapes: plain arithmetic; operations as they lie. -/
import Derived.Test.YtdmdnijgjgjmkaaProg
import Derived.Test.YtdmdnijgjgjmkaaOp25c
import Derived.Test.YtdmdnijgjgjmkaaScript26
set_option maxRecDepth 20000
namespace Go.Proofs.Ytdmdnijgjgjmkaa
open Go.RowKit

/-- A head. -/
structure Hd where
  a : Int
  b : Int
  d : Int
  c : Int
  r : Int
def Hd.cells (h : Hd) : List Value := [.int .i64 h.a, .int .i64 h.b, .int .u32 h.d, .int .i64 h.c, .int .i64 h.r]
def Hd.chk (h : Hd) : Int := headChk h.a h.b h.d h.c h.r
def Hd.nums (h : Hd) : List Nat := [h.a.toNat, h.b.toNat, h.d.toNat, h.c.toNat, h.r.toNat]
/-- An operation, and how it lies: its kind, its numbers, and the slice of these. -/
structure OpD where
  k : Int
  ns : List Nat
  v : Value
def OpD.cells (o : OpD) : List Value := [.int .i64 o.k, o.v]
def opCells (l : List OpD) : List Value := l.flatMap OpD.cells
def OpD.chk (o : OpD) : Nat := Go.Proofs.Ytdmdnijgjgjmkaa.chk o.k o.ns
def OpD.nums (o : OpD) : List Nat := o.k.toNat :: o.ns.length :: o.ns
structure OpOk (w : World) (o : OpD) : Prop where
  vec : Vec w o.v o.ns.length (u64s o.ns)
  w64 : ∀ n ∈ o.ns, W64 n
theorem OpOk.upd {w w' : World} {o : OpD} (h : OpOk w o) (u : Upd [] w w') : OpOk w' o := ⟨h.vec.upd u, h.w64⟩
/-- The first thing wrong with operations. -/
def opsErr : List OpD → Nat
  | [] => 0
  | o :: l => if o.chk = 0 then opsErr l else o.chk
def tapeNums (h : Hd) (n : Nat) (l : List OpD) : List Nat := h.nums ++ [n] ++ l.flatMap OpD.nums
theorem opsErr_take {l : List OpD} {j : Nat} (h : j < l.length) (h0 : ∀ o ∈ l.take j, o.chk = 0) (h1 : l[j].chk ≠ 0) : opsErr l = l[j].chk := by
  induction l generalizing j with
  | nil => simp at h
  | cons o l ih =>
    cases j with
    | zero => simp only [List.getElem_cons_zero] at h1 ⊢; simp [opsErr, h1]
    | succ j =>
      have e : o.chk = 0 := h0 o (by simp)
      simp only [List.getElem_cons_succ] at h1 ⊢
      simp only [opsErr, if_pos e]
      exact ih (by simpa using h) (fun o' ho' => h0 o' (by simp [ho'])) h1
theorem opsErr_all {l : List OpD} (h0 : ∀ o ∈ l, o.chk = 0) : opsErr l = 0 := by
  induction l with
  | nil => rfl
  | cons o l ih => simp only [opsErr, if_pos (h0 o (by simp))]; exact ih fun o' ho' => h0 o' (by simp [ho'])
theorem opCells_len (l : List OpD) : (opCells l).length = l.length * 2 := by
  induction l with
  | nil => rfl
  | cons o l ih => rw [opCells, List.flatMap_cons, List.length_append]; simp only [opCells] at ih; rw [ih]; simp [OpD.cells]; omega
theorem opCells_get (l : List OpD) : ∀ {j : Nat} (h : j < l.length), (opCells l)[j * 2]? = some (.int .i64 l[j].k) ∧ (opCells l)[j * 2 + 1]? = some l[j].v := by
  induction l with
  | nil => intro j h; simp at h
  | cons o l ih =>
    intro j h
    cases j with
    | zero => exact ⟨rfl, rfl⟩
    | succ j =>
      have := ih (j := j) (by simpa using h)
      have e : opCells (o :: l) = .int .i64 o.k :: o.v :: opCells l := rfl
      rw [e, show (j + 1) * 2 = (j * 2 + 1) + 1 from by omega, show (j * 2 + 1) + 1 + 1 = ((j * 2 + 1) + 1) + 1 from rfl]
      simp only [List.getElem?_cons_succ, List.getElem_cons_succ]
      exact this
theorem chk_zero {k : Int} {zs : List Nat} (h : chk k zs = 0) : 1 ≤ k ∧ k ≤ 24 ∧ zs.length ≤ 64 := by
  unfold chk at h
  have hk : ¬ (k < 1 ∨ 24 < k) := by
    intro hk
    rw [shapeAt, if_pos hk, if_pos (show noShape.word = [] from rfl)] at h
    omega
  repeat' split at h
  all_goals first | omega | skip
theorem headOk_of {a b d c r : Int} (h : headChk a b d c r = 0) : 1 ≤ a ∧ a ≤ 8 ∧ 1 ≤ b ∧ b ≤ 8 ∧ d ≠ 0 ∧ 0 ≤ c ∧ c ≤ a - 1 ∧ 1 ≤ r ∧ r ≤ 4096 := by
  unfold headChk at h
  split at h
  · rename_i h1; simpa [headOk] using h1
  · omega
theorem nums_w64 {o : OpD} (h : ∀ n ∈ o.ns, W64 n) (hc : o.chk = 0) : ∀ n ∈ o.nums, W64 n := by
  have := chk_zero hc
  intro n hn
  simp only [OpD.nums, List.mem_cons] at hn
  rcases hn with rfl | rfl | hn
  · exact ⟨by omega⟩
  · exact ⟨by omega⟩
  · exact h n hn
theorem tapeNums_len (h : Hd) (n : Nat) (l : List OpD) (hc : ∀ o ∈ l, o.chk = 0) : (tapeNums h n l).length ≤ 6 + 66 * l.length := by
  have : (l.flatMap OpD.nums).length ≤ 66 * l.length := by
    induction l with
    | nil => simp
    | cons o l ih =>
      have h1 := (chk_zero (hc o (by simp))).2.2
      have := ih fun o' ho' => hc o' (by simp [ho'])
      rw [List.flatMap_cons, List.length_append]
      simp only [OpD.nums, List.length_cons] at *
      omega
  simp only [tapeNums, Hd.nums, List.length_append, List.length_cons, List.length_nil] at *
  omega
theorem tapeNums_w64 (h : Hd) (n : Nat) (l : List OpD) (hd : h.d ≤ 4294967295) (hk : h.chk = 0) (hn : W64 n) (hl : ∀ o ∈ l, ∀ x ∈ o.ns, W64 x) (hc : ∀ o ∈ l, o.chk = 0) : ∀ x ∈ tapeNums h n l, W64 x := by
  intro x hx
  have h0 := headOk_of hk
  simp only [tapeNums, Hd.nums, List.mem_append, List.mem_cons, List.not_mem_nil, or_false, List.mem_flatMap] at hx
  rcases hx with ((rfl | rfl | rfl | rfl | rfl) | rfl) | ⟨o, ho, hx⟩
  · exact ⟨by omega⟩
  · exact ⟨by omega⟩
  · exact ⟨by omega⟩
  · exact ⟨by omega⟩
  · exact ⟨by omega⟩
  · exact hn
  · exact nums_w64 (hl o ho) (hc o ho) x hx
/-- A tape's bytes. -/
def tapeB (h : Hd) (n : Nat) (l : List OpD) : List Nat := 84 :: putAll (tapeNums h n l)
theorem tapeB_len (h : Hd) (n : Nat) (l : List OpD) (hd : h.d ≤ 4294967295) (hk : h.chk = 0) (hn : W64 n) (hl : ∀ o ∈ l, ∀ x ∈ o.ns, W64 x) (hc : ∀ o ∈ l, o.chk = 0) : (tapeB h n l).length ≤ 61 + 660 * l.length := by
  have h1 := putAll_len _ fun x hx => (tapeNums_w64 h n l hd hk hn hl hc x hx).lt
  have h2 := tapeNums_len h n l hc
  simp only [tapeB, List.length_cons]
  omega
theorem tapeB_more (h : Hd) (n : Nat) (l : List OpD) (o : OpD) : tapeB h n (l ++ [o]) = tapeB h n l ++ putAll [o.k.toNat, o.ns.length] ++ putAll o.ns := by
  simp only [tapeB, tapeNums, List.flatMap_append, List.flatMap_cons, List.flatMap_nil, List.append_nil, ← List.append_assoc, putAll_append]
  simp only [OpD.nums, putAll, List.append_assoc, List.cons_append, List.append_nil]
theorem tapeB_nil (h : Hd) (n : Nat) : tapeB h n [] = [84] ++ putAll (h.nums ++ [n]) := by simp [tapeB, tapeNums]
end Go.Proofs.Ytdmdnijgjgjmkaa
