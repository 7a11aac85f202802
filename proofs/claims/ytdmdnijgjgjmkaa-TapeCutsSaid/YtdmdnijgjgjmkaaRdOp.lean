/- Operations and heads that read as data. -/
import Derived.Test.YtdmdnijgjgjmkaaProg
import Derived.Test.YtdmdnijgjgjmkaaRdVec
import Derived.Test.YtdmdnijgjgjmkaaTapeP
import Derived.KernelRfl
set_option maxRecDepth 20000
namespace Go.Proofs.Ytdmdnijgjgjmkaa
open Go.ChangeShapes Go.WideShapes Go.ChangeAt Go.RowKit

set_option maxRecDepth 100000 in
theorem op_of_rd {w : World} {cells : List Value} (h : Rd Try.prog w 3 68 cells) : ∃ o : OpD, cells = o.cells ∧ OpOk w o := by
  have c2 : Try.prog.cellsOf 68 = 2 := by kernel_rfl
  have c1 : Try.prog.cellsOf 3 = 1 := by kernel_rfl
  have c1' : Try.prog.cellsOf 52 = 1 := by kernel_rfl
  unfold Rd at h
  simp only [Try.underlying68, c2] at h
  obtain ⟨hl, hf⟩ := h
  have h0 := hf 0 _ rfl
  have h1 := hf 1 _ rfl
  obtain ⟨a, n, cap, zs, e1, hn, _, _, hv, hz⟩ := rd_nats (B := 18446744073709551616) Try.underlying52 Try.underlying55 (by kernel_rfl) (fun z => wf_u64) h1
  unfold Rd at h0
  simp only [Try.underlying3] at h0
  obtain ⟨z0, e0, _⟩ := h0
  refine ⟨⟨z0, zs, .slice a n cap⟩, ?_, ?_, fun x hx => ⟨by have := hz x hx; omega⟩⟩
  · match cells, hl with
    | [x, y], _ =>
      simp [c1, c1'] at e0 e1
      rw [e0, e1]
      rfl
  · dsimp only
    rw [hn]
    exact hv
instance : Inhabited OpD := ⟨⟨0, [], undef⟩⟩
set_option maxRecDepth 100000 in
theorem ops_of_rd {w : World} {cs : List Value} (h : Rd Try.prog w 4 65 cs) : ∃ (a : Option Addr) (n cap : Nat) (l : List OpD), cs = [.slice a n cap] ∧ l.length = n ∧ Vec w (.slice a n cap) n (opCells l) ∧ ∀ o ∈ l, OpOk w o := by
  have c2 : Try.prog.cellsOf 68 = 2 := by kernel_rfl
  unfold Rd at h
  simp only [Try.underlying65, c2] at h
  obtain ⟨a, n, cap, rfl, hc, hm, hs⟩ := h
  by_cases h0 : n = 0
  · exact ⟨a, n, cap, [], rfl, by simp [h0], ⟨a, cap, rfl, hc, hm, Or.inl rfl⟩, by simp⟩
  rcases hs with h2 | h2 | ⟨b, o, rfl, hb, hel⟩
  · omega
  · omega
  have hz : ∀ i, i < n → ∃ q : OpD, w.cell? ⟨b, o + i * 2, none⟩ = some (.int .i64 q.k) ∧ w.cell? ⟨b, o + i * 2 + 1, none⟩ = some q.v ∧ OpOk w q := by
    intro i hi
    obtain ⟨cells, hl, hcell, hrd⟩ := hel i hi
    obtain ⟨q, rfl, hq⟩ := op_of_rd hrd
    exact ⟨q, hcell 0 _ rfl, hcell 1 _ rfl, hq⟩
  obtain ⟨f, hf⟩ := pick hz
  have hlen : ((List.range n).map f).length = n := by simp
  have hget : ∀ j (hj : j < ((List.range n).map f).length), ((List.range n).map f)[j] = f j := by intro j hj; simp
  refine ⟨_, n, cap, (List.range n).map f, rfl, by simp, ⟨_, cap, rfl, hc, hm, Or.inr ⟨b, o, rfl, hb, fun j u hj => ?_⟩⟩, ?_⟩
  · have hjl : j < n * 2 := by
      have := (List.getElem?_eq_some_iff.1 hj).1
      rw [opCells_len, hlen] at this
      exact this
    obtain ⟨i, hi⟩ : ∃ i, j = i * 2 ∨ j = i * 2 + 1 := ⟨j / 2, by omega⟩
    have hin : i < n := by omega
    have hil : i < ((List.range n).map f).length := by rw [hlen]; exact hin
    obtain ⟨g0, g1⟩ := opCells_get _ hil
    have hfi := hf i hin
    rw [hget] at g0 g1
    rcases hi with rfl | rfl
    · rw [g0] at hj
      cases hj
      exact hfi.1
    · rw [g1] at hj
      cases hj
      rw [← Nat.add_assoc]
      exact hfi.2.1
  · intro x hx
    obtain ⟨i, hi, rfl⟩ := List.mem_map.1 hx
    exact (hf i (List.mem_range.1 hi)).2.2
set_option maxRecDepth 100000 in
theorem head_of_rd {w : World} {cells : List Value} (h : Rd Try.prog w 2 64 cells) : ∃ h : Hd, cells = h.cells ∧ 0 ≤ h.d ∧ h.d ≤ 4294967295 := by
  have c5 : Try.prog.cellsOf 64 = 5 := by kernel_rfl
  have c1 : Try.prog.cellsOf 3 = 1 := by kernel_rfl
  have c1' : Try.prog.cellsOf 23 = 1 := by kernel_rfl
  unfold Rd at h
  simp only [Try.underlying64, c5] at h
  obtain ⟨hl, hf⟩ := h
  have h0 := hf 0 _ rfl
  have h1 := hf 1 _ rfl
  have h2 := hf 2 _ rfl
  have h3 := hf 3 _ rfl
  have h4 := hf 4 _ rfl
  simp only [Rd, Try.underlying3, Try.underlying23, c1, c1'] at h0 h1 h2 h3 h4
  obtain ⟨z0, e0, _⟩ := h0
  obtain ⟨z1, e1, _⟩ := h1
  obtain ⟨z2, e2, w2⟩ := h2
  obtain ⟨z3, e3, _⟩ := h3
  obtain ⟨z4, e4, _⟩ := h4
  have hw := wf_u32 w2
  refine ⟨⟨z0, z1, z2, z3, z4⟩, ?_, hw.1, by have := hw.2; dsimp only; omega⟩
  match cells, hl with
  | [a, b, c, d, e], _ =>
    simp [c1, c1'] at e0 e1 e2 e3 e4
    rw [e0, e1, e2, e3, e4]
    rfl
end Go.Proofs.Ytdmdnijgjgjmkaa
