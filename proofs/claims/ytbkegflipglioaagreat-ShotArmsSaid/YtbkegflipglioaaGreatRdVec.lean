/- A slice of numbers that reads as data, as a list. -/
import Derived.Test.YtbkegflipglioaaGreatRead
import Derived.Test.YtbkegflipglioaaGreatVec
set_option maxRecDepth 20000
namespace Go.Proofs.YtbkegflipglioaaGreat
open Go.ChangeShapes Go.WideShapes Go.ChangeAt Go.RowKit

theorem rd_nats {P : Program} {w : World} {t e : TypeId} {k : IntKind} {cs : List Value} {B : Int} (hu : P.underlying t = some (.slice e)) (hk : P.underlying e = some (.int k)) (h1 : P.cellsOf e = 1) (hB : ∀ z, (Lit.int k z).wf = true → 0 ≤ z ∧ z < B)
    (h : Rd P w 2 t cs) : ∃ (a : Option Addr) (n cap : Nat) (zs : List Nat), cs = [.slice a n cap] ∧ zs.length = n ∧ n ≤ cap ∧ cap ≤ maxLen ∧ Vec w (.slice a n cap) n (zs.map fun x => .int k (x : Nat)) ∧ ∀ x ∈ zs, (x : Int) < B := by
  unfold Rd at h
  simp only [hu, h1] at h
  obtain ⟨a, n, cap, rfl, hc, hm, hs⟩ := h
  by_cases h0 : n = 0
  · exact ⟨a, n, cap, [], rfl, by simp [h0], hc, hm, ⟨a, cap, rfl, hc, hm, Or.inl rfl⟩, by simp⟩
  rcases hs with h2 | h2 | ⟨b, o, rfl, hb, hel⟩
  · omega
  · omega
  have hz : ∀ i, i < n → ∃ z : Nat, w.cell? ⟨b, o + i, none⟩ = some (.int k (z : Nat)) ∧ (z : Int) < B := by
    intro i hi
    obtain ⟨cells, hl, hcell, hrd⟩ := hel i hi
    unfold Rd at hrd
    simp only [hk] at hrd
    obtain ⟨z, rfl, hw⟩ := hrd
    obtain ⟨h3, h4⟩ := hB z hw
    have := hcell 0 _ rfl
    refine ⟨z.toNat, ?_, by omega⟩
    rw [Int.toNat_of_nonneg h3]
    simpa using this
  obtain ⟨f, hf⟩ := pick hz
  refine ⟨_, n, cap, (List.range n).map f, rfl, by simp, hc, hm, ⟨_, cap, rfl, hc, hm, Or.inr ⟨b, o, rfl, hb, fun j u hj => ?_⟩⟩, ?_⟩
  · simp only [List.map_map, List.getElem?_map, Option.map_eq_some_iff] at hj
    obtain ⟨i, hi, rfl⟩ := hj
    obtain ⟨hi1, hi2⟩ := List.getElem?_eq_some_iff.1 hi
    have hjn : j < n := by simpa using hi1
    have hij : i = j := by rw [← hi2, List.getElem_range]
    subst hij
    exact (hf i hjn).1
  · intro x hx
    obtain ⟨i, hi, rfl⟩ := List.mem_map.1 hx
    exact (hf i (List.mem_range.1 hi)).2
end Go.Proofs.YtbkegflipglioaaGreat
