/- A region that draws its order, an operation at a time: what needs no world is taken first. -/
import Derived.Test.YtdmdnijgjgjmkaaVec
set_option maxRecDepth 20000
namespace Go.Proofs.Ytdmdnijgjgjmkaa
open Go.RowKit
section
variable {P : Program} {md : Region.Mode} {ops : Array Oper} {Q : Exit → Act → World → Prop} {fuel : Nat} {listed : Array Bool} {a : Act} {w : World}
/-- A wanted operation that yields in any world. -/
theorem take_yes {i : Nat} {oi : Oper} {v : Value} (hi : ops[i]? = some oi) (hs : Region.noSelect ops = true) (hf : Region.free md ops listed i = true) (hr : (Region.ready md ops listed).contains i = true)
    (hQ : ∀ c a w, Q (.panic c) (a.put oi.dst v) w → Q (.panic c) a w) (hw : Region.wanted oi (yielded ops a.tmps) = true) (hy : ∀ w, (execOp a.eval oi).run P w = .ok (.value v) w)
    (h : wpAny P md ops Q fuel (listed.setIfInBounds i true) (a.put oi.dst v) w) : wpAny P md ops Q (fuel + 1) listed a w := wpAny_take hi hs hf hr hQ (Or.inl ⟨hw, hy⟩) h
/-- One that its guard forbids. -/
theorem take_no {i : Nat} {oi : Oper} (hi : ops[i]? = some oi) (hs : Region.noSelect ops = true) (hf : Region.free md ops listed i = true) (hr : (Region.ready md ops listed).contains i = true)
    (hQ : ∀ c a w, Q (.panic c) (a.put oi.dst undef) w → Q (.panic c) a w) (hw : Region.wanted oi (yielded ops a.tmps) = false)
    (h : wpAny P md ops Q fuel (listed.setIfInBounds i true) (a.put oi.dst undef) w) : wpAny P md ops Q (fuel + 1) listed a w := wpAny_take hi hs hf hr hQ (Or.inr ⟨hw, rfl⟩) h
/-- A wanted operation behind a guard, the only one that is ready. -/
theorem any1g (i : Nat) {o : Oper} (hr : Region.ready md ops listed = [i]) (ho : ops[i]? = some o) (hg : Region.wanted o (yielded ops a.tmps) = true)
    (h : ∀ K : Act → World → Prop, (∀ a w, wpAny P md ops Q fuel (listed.setIfInBounds i true) a w → K a w) → Oper.wp P o a w K Q) : wpAny P md ops Q (fuel + 1) listed a w :=
  wpAny_ready hr (by simp) (AllReady.cons ho (fun K hK => by rw [if_pos hg]; exact h K hK) AllReady.nil)
end
end Go.Proofs.Ytdmdnijgjgjmkaa
