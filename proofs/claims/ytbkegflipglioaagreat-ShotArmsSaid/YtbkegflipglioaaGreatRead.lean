/- What the reading of an argument as data says of memory, level by level: numbers, bools, strings, slices, structs, arrays. -/
import Derived.Test.YtbkegflipglioaaGreatPost
set_option maxRecDepth 20000
namespace Go.Proofs.YtbkegflipglioaaGreat
open Go.ChangeShapes Go.WideShapes Go.ChangeAt Go.RowKit

/-- n levels of what a value's cells are. -/
def Rd (P : Program) (w : World) : Nat → TypeId → List Value → Prop
  | 0, _, _ => True
  | n + 1, t, cs =>
    match P.underlying t with
    | some .bool => ∃ b, cs = [.bool b]
    | some (.int k) => ∃ z, cs = [.int k z] ∧ (Lit.int k z).wf = true
    | some .string => ∃ s, cs = [.string s] ∧ s.size ≤ maxLen
    | some (.slice e) => ∃ a len cap, cs = [.slice a len cap] ∧ len ≤ cap ∧ cap ≤ maxLen ∧ (len = 0 ∨ P.cellsOf e = 0 ∨ ∃ b o, a = some ⟨b, o, none⟩ ∧ b < w.heap.size ∧
        ∀ i, i < len → ∃ cells, cells.length = P.cellsOf e ∧ (∀ j v, cells[j]? = some v → w.cell? ⟨b, o + i * P.cellsOf e + j, none⟩ = some v) ∧ Rd P w n e cells)
    | some (.struct fs) => cs.length = P.cellsOf t ∧ ∀ (i : Nat) (f : Field), fs[i]? = some f → Rd P w n f.type ((cs.drop f.offset).take (P.cellsOf f.type))
    | some (.array m e) => cs.length = P.cellsOf t ∧ ∀ i, i < m → Rd P w n e ((cs.drop (i * P.cellsOf e)).take (P.cellsOf e))
    | _ => True

theorem rd_of_trod {H : Type} {enc : TypeId × Value → H} {P : Program} {w : World} {spare : Nat → Bool} {held : Bool} (n : Nat) : ∀ {fuel : Nat} {t : TypeId} {cs : List Value} {x : DataW H × List MemPlace},
    DataW.trod enc P w 0 spare held fuel t cs = some x → Rd P w n t cs := by
  induction n with
  | zero => intro _ _ _ _ _; trivial
  | succ n ih =>
    intro fuel t cs x h
    unfold Rd
    cases hu : P.underlying t with
    | none => trivial
    | some d =>
      cases d <;> simp only
      case bool =>
        obtain ⟨b, h1, _⟩ := DataW.trod_bool hu h
        exact ⟨b, h1⟩
      case int k =>
        obtain ⟨z, h1, _, h3⟩ := DataW.trod_int hu h
        exact ⟨z, h1, h3⟩
      case string =>
        obtain ⟨z, h1, _, h3⟩ := DataW.trod_string hu h
        exact ⟨z, h1, h3⟩
      case slice e =>
        rcases DataW.trod_slice hu h with ⟨rfl, _⟩ | ⟨a, len, cap, elems, rest, m, _, rfl, _, hb, hl, hm, hlen, hel, _, _⟩
        · exact ⟨none, 0, 0, rfl, Nat.le_refl _, Nat.zero_le _, Or.inl rfl⟩
        · refine ⟨some a, len, cap, rfl, hl, hm, ?_⟩
          by_cases h0 : len = 0
          · exact Or.inl h0
          by_cases hz : P.cellsOf e = 0
          · exact Or.inr (Or.inl hz)
          right; right
          have each : ∀ i, i < len → ∃ cells y, w.cells? 0 (a.add (i * P.cellsOf e)) (P.cellsOf e) = some cells ∧ DataW.trod enc P w 0 spare held m e cells = some y := by
            intro i hi
            have := hel i hi
            have he : elems[i]? = some elems[i] := List.getElem?_eq_getElem (by omega)
            rw [he] at this
            obtain ⟨cells, h1, h2⟩ := Option.bind_eq_some_iff.1 this
            exact ⟨cells, _, h1, h2⟩
          have hsp : a.spot = none := by
            obtain ⟨cells, y, h1, _⟩ := each 0 (by omega)
            obtain ⟨_, hlen0, hc0⟩ := World.cells?_some h1
            have := hc0 0 (by omega)
            obtain ⟨b, o, sp⟩ := a
            cases sp with
            | none => rfl
            | some s0 =>
              have hx : cells[0]? = some cells[0] := List.getElem?_eq_getElem (by omega)
              simp [Addr.add, World.cell?] at this
              split at this <;> simp_all
          obtain ⟨b, o, sp⟩ := a
          simp only at hsp
          subst hsp
          refine ⟨b, o, rfl, ?_, fun i hi => ?_⟩
          · obtain ⟨cells, y, h1, _⟩ := each 0 (by omega)
            have := World.cells?_block h1 (by omega)
            simpa [Addr.add] using this
          · obtain ⟨cells, y, h1, h2⟩ := each i hi
            obtain ⟨_, hlen0, hc0⟩ := World.cells?_some h1
            refine ⟨cells, hlen0, fun j v hv => ?_, ih h2⟩
            have hj : j < cells.length := (List.getElem?_eq_some_iff.1 hv).1
            have := hc0 j (by omega)
            rw [Addr.add_mid, Addr.add_mid] at this
            rw [this, hv]
      case struct fs =>
        obtain ⟨xs, m, _, _, hl, hn, hf⟩ := DataW.trod_struct hu h
        refine ⟨hl, fun i f hi => ?_⟩
        have := hf i f hi
        have hx : xs[i]? = some (xs[i]'(by rw [hn]; exact (Array.getElem?_eq_some_iff.1 hi).1)) := List.getElem?_eq_getElem _
        rw [hx] at this
        exact ih this
      case array m e =>
        cases fuel with
        | zero => simp [DataW.trod] at h
        | succ q =>
          unfold DataW.trod at h
          rw [hu] at h
          split at h <;> simp_all
          obtain ⟨hl, xs, hp, hd⟩ := h
          intro i hi
          have h1 := mapM_some_get hp i i (by simp [hi])
          have h2 := mapM_some_length hp
          have hx : xs[i]? = some (xs[i]'(by simp at h2; omega)) := List.getElem?_eq_getElem _
          rw [hx] at h1
          exact ih _ _ h1

theorem rd_of {H : Type} {enc : TypeId × Value → H} {P : Program} {w : World} {spare : Nat → Bool} {held : Bool} {t : TypeId} {v : Value} {d : DataW H} {ps : List MemPlace} (h : DataW.Trod enc P w 0 spare held t v d ps) (n : Nat) : Rd P w n t v.cells.toList := by
  obtain ⟨fuel, hf⟩ := h
  exact rd_of_trod n hf
theorem pick {α : Type} [Inhabited α] {n : Nat} {Q : Nat → α → Prop} (h : ∀ i, i < n → ∃ c, Q i c) : ∃ f : Nat → α, ∀ i, i < n → Q i (f i) :=
  ⟨fun i => if hi : i < n then Classical.choose (h i hi) else default, fun i hi => by simp only [dif_pos hi]; exact Classical.choose_spec (h i hi)⟩
theorem wf_u32 {z : Int} (h : (Lit.int .u32 z).wf = true) : 0 ≤ z ∧ z < 4294967296 := by
  have e1 : IntKind.u32.min = 0 := by decide
  have e2 : IntKind.u32.max = 4294967295 := by decide
  simp only [Lit.wf, Bool.and_eq_true, decide_eq_true_eq, e1, e2] at h
  omega
theorem wf_u64 {z : Int} (h : (Lit.int .u64 z).wf = true) : 0 ≤ z ∧ z < 18446744073709551616 := by
  have e1 : IntKind.u64.min = 0 := by decide
  have e2 : IntKind.u64.max = 18446744073709551615 := by decide
  simp only [Lit.wf, Bool.and_eq_true, decide_eq_true_eq, e1, e2] at h
  omega
theorem wf_u8 {z : Int} (h : (Lit.int .u8 z).wf = true) : 0 ≤ z ∧ z < 256 := by
  have e1 : IntKind.u8.min = 0 := by decide
  have e2 : IntKind.u8.max = 255 := by decide
  simp only [Lit.wf, Bool.and_eq_true, decide_eq_true_eq, e1, e2] at h
  omega
theorem wf_i64 {z : Int} (h : (Lit.int .i64 z).wf = true) : -9223372036854775808 ≤ z ∧ z < 9223372036854775808 := by
  have e1 : IntKind.i64.min = -9223372036854775808 := by decide
  have e2 : IntKind.i64.max = 9223372036854775807 := by decide
  simp only [Lit.wf, Bool.and_eq_true, decide_eq_true_eq, e1, e2] at h
  omega
/-- The one cell at place j of a list that reads as one number there. -/
theorem at_one {cs : List Value} {j : Nat} {v : Value} (h : (cs.drop j).take 1 = [v]) : cs[j]? = some v := by
  have := congrArg (·[0]?) h
  simpa using this

end Go.Proofs.YtbkegflipglioaaGreat
