/- The last step of a law's row, once for all laws: below the old heap's size nothing has turned, so every argument reads as it did. -/
import Derived.Test.YtbkegflipglioaaGreatRows
import Derived.Test.YtbkegflipglioaaGreatBase
import Derived.ProofKit
import Derived.OpenShut
set_option maxRecDepth 20000
namespace Go.Proofs.YtbkegflipglioaaGreat
open Go.ChangeShapes Go.WideShapes Go.ChangeAt Go.RowKit

theorem trodAll_below {H : Type} {enc : TypeId × Value → H} {P : Program} (hl : laidOutB P = true) {W W' : World} (hb : Below W.heap.size W W') :
    ∀ (ts : List TypeId) (vs : List Value) (ds : List (DataW H)) (ps : List MemPlace), (∀ t ∈ ts, P.readableRec t = true ∧ t < P.types.size) →
    DataW.TrodAll enc P W 0 (fun _ => true) true ts vs ds ps → (∀ x ∈ ps, x.block < W.heap.size) → DataW.TrodAll enc P W' 0 (fun b => decide (b < W.heap.size)) true ts vs ds ps := by
  intro ts
  induction ts with
  | nil =>
    intro vs ds ps _ h _
    obtain ⟨rfl, rfl, rfl⟩ := trodAll_nil h
    exact trodAll_mk0
  | cons t ts ih =>
    intro vs ds ps hr h hlt
    obtain ⟨v, vs, d, ds, p, q, rfl, rfl, rfl, h1, h2⟩ := trodAll_cons h
    have ht := hr t (by simp)
    exact trodAll_cons_mk (Below.trod hl ht.1 ht.2 h1 hb (fun x hx => hlt x (by simp [hx]))) (ih _ _ _ (fun t ht => hr t (by simp [ht])) h2 (fun x hx => hlt x (by simp [hx])))

theorem law_post {H : Type} {enc : TypeId × Value → H} {P : Program} {f : Func} {s : ChangeSpec} {W W' : World} {args : Array Value} {ds gs : List (DataW H)} {before : List MemPlace} {tb : TypeId}
    (hW : DataW.Whole enc P f.params.toList s.vars false W args.toList ds gs before) (hvars : s.vars = []) (hl : laidOutB P = true) (hr : f.params.toList.all (fun t => P.readableRec t && decide (t < P.types.size)) = true)
    (hfn : ∀ ds' : List (DataW H), ds'.length = f.params.size → s.fn H ds' = { results := [.lit (.bool true)], args := ds' }) (hrt : f.resultTypes = #[tb]) (htb : P.underlying tb = some .bool) (hb : Below W.heap.size W W') :
    s.post enc P f false true false false W args (.bool true) W' := by
  have hlt : ∀ p ∈ before, p.block < W.heap.size := fun p hp => hW.lt p hp
  have hW0 := hW
  obtain ⟨p, q, hA, hV, rfl, hz, hn⟩ := hW
  rw [hvars] at hV
  obtain ⟨rfl, rfl⟩ := trodVars_none hV
  have hlen : ∀ (ts : List TypeId) (vs : List Value) (ds : List (DataW H)) (ps : List MemPlace), DataW.TrodAll enc P W 0 (fun _ => true) true ts vs ds ps → ds.length = ts.length := by
    intro ts
    induction ts with
    | nil => intro vs ds ps h; obtain ⟨rfl, rfl, rfl⟩ := trodAll_nil h; rfl
    | cons t ts ih => intro vs ds ps h; obtain ⟨v, vs, d, ds, p, q, rfl, rfl, rfl, h1, h2⟩ := trodAll_cons h; simp [ih _ _ _ h2]
  have hfn' := hfn ds (by rw [hlen _ _ _ _ hA]; simp)
  refine ⟨ds, [], p ++ [], [], p, [], hW0, ?_, ?_, ?_, ?_, fun h => by cases h⟩
  · simp only [List.append_nil, hfn', hrt]
    exact trodAll_cons_mk (shut_bool htb _) trodAll_mk0
  · simp only [List.append_nil, hfn']
    refine trodAll_below hl hb _ _ _ _ (fun t ht => ?_) hA (fun x hx => hlt x (by simp [hx]))
    have := List.all_eq_true.1 hr t ht
    simpa using this
  · simp only [List.append_nil, hfn', hvars]
    trivial
  · exact World.keptBut_mono (fun p hp => ⟨by simpa using hp, Or.inr (Or.inl (by simpa using hp))⟩) (hb.frame (· ∈ p))

/-- A slice of integers as an argument: how many there are, what they are, and where. -/
theorem arg_ints {H : Type} {enc : TypeId × Value → H} {P : Program} {W : World} {b0 : Nat} {t e : TypeId} {k : IntKind} {v : Value} {d : DataW H} {ps : List MemPlace} (ht : P.underlying t = some (.slice e)) (he : P.underlying e = some (.int k)) (hc : P.cellsOf e = 1)
    (hval : Value.okWide P W .any b0 t v) (h : DataW.Trod enc P W 0 (fun _ => true) true t v d ps) :
    ∃ (a : Option Addr) (n cap : Nat) (zs : List Int), v = .slice a n cap ∧ n ≤ zs.length ∧ n ≤ cap ∧ cap ≤ maxLen ∧ (∀ z ∈ zs, (Lit.int k z).wf = true) ∧
      (n = 0 ∨ ∃ b o, a = some ⟨b, o, none⟩ ∧ b < W.heap.size ∧ ∀ i, i < n → W.cell? ⟨b, o + i, none⟩ = some (.int k (zs.getD i 0))) := by
  obtain ⟨a0, len, cap, rfl⟩ := okWide_slice ht hval
  obtain ⟨fuel, hf⟩ := h
  rcases open_ints ht he hc hf with ⟨hcs, hx⟩ | ⟨a, len', cap', zs, hcs, _, hl, hm, hz, hx, hcell, hwz⟩
  · simp [Value.cells] at hcs
    obtain ⟨rfl, rfl, rfl⟩ := hcs
    exact ⟨none, 0, 0, [], rfl, by simp, by simp, by simp, by simp, Or.inl rfl⟩
  · simp [Value.cells] at hcs
    obtain ⟨rfl, rfl, rfl⟩ := hcs
    simp only [if_true] at hz
    refine ⟨some a, len, cap, zs, rfl, by omega, hl, hm, hwz, ?_⟩
    by_cases h0 : len = 0
    · exact Or.inl h0
    · right
      have h1 := hcell 0 (by omega)
      have hlt : (a.add 0).block < W.heap.size := block_lt_of_cell h1
      obtain ⟨b, o, sp⟩ := a
      have hsp : sp = none := by
        cases sp with
        | none => rfl
        | some x => simp [Addr.add, World.cell?] at h1; split at h1 <;> simp at h1
      subst hsp
      refine ⟨b, o, rfl, by simpa [Addr.add] using hlt, fun i hi => ?_⟩
      have := hcell i (by omega)
      rwa [Addr.add_mid] at this

end Go.Proofs.YtbkegflipglioaaGreat
