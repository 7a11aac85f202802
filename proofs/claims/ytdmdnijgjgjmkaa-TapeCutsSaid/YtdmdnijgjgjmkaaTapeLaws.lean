/- A tape's bytes are parsed as it was, and cut short they are none: plain arithmetic. -/
import Derived.Test.YtdmdnijgjgjmkaaProg
import Derived.Test.YtdmdnijgjgjmkaaCutP
import Derived.Test.YtdmdnijgjgjmkaaTapeBytes2
set_option maxRecDepth 20000
namespace Go.Proofs.Ytdmdnijgjgjmkaa

def OpD.pr (o : OpD) : Nat × List Nat := (o.k.toNat, o.ns)
/-- What may be taped. -/
structure Fit (h : Hd) (l : List OpD) : Prop where
  hc : h.chk = 0
  d : h.d ≤ 4294967295
  ops : ∀ o ∈ l, o.chk = 0
  w64 : ∀ o ∈ l, ∀ x ∈ o.ns, W64 x
  len : l.length ≤ 1048576
theorem opsErr_zero {l : List OpD} (h : opsErr l = 0) : ∀ o ∈ l, o.chk = 0 := by
  induction l with
  | nil => intro o ho; cases ho
  | cons o l ih =>
    intro x hx
    unfold opsErr at h
    split at h
    · rename_i h0
      rcases List.mem_cons.1 hx with rfl | hx
      · exact h0
      · exact ih h x hx
    · rename_i h0; exact absurd h h0
theorem fit_of {h : Hd} {l : List OpD} (he : tapeErr h l = 0) (hd : h.d ≤ 4294967295) (hw : ∀ o ∈ l, ∀ x ∈ o.ns, W64 x) (hl : l.length ≤ 1048576) : Fit h l := by
  unfold tapeErr at he
  split at he
  · rename_i h0
    exact ⟨h0, hd, opsErr_zero (by omega), hw, hl⟩
  · rename_i h0; exact absurd he h0
theorem Fit.hs {h : Hd} {l : List OpD} (f : Fit h l) (hd : 0 ≤ h.d) : h.nums.length = 5 ∧ (∀ x ∈ h.nums, x ≤ 4294967295) ∧ numsChk h.nums = 0 := by
  have h0 := headOk_of f.hc
  refine ⟨rfl, ?_, ?_⟩
  · intro x hx
    simp only [Hd.nums, List.mem_cons, List.not_mem_nil, or_false] at hx
    have := f.d
    rcases hx with rfl | rfl | rfl | rfl | rfl <;> omega
  · have e : numsChk h.nums = headChk (h.a.toNat : Int) (h.b.toNat : Int) (h.d.toNat : Int) (h.c.toNat : Int) (h.r.toNat : Int) := rfl
    rw [e, Int.toNat_of_nonneg (by omega), Int.toNat_of_nonneg (by omega), Int.toNat_of_nonneg hd, Int.toNat_of_nonneg (by omega), Int.toNat_of_nonneg (by omega)]
    exact f.hc
theorem Fit.os {h : Hd} {l : List OpD} (f : Fit h l) : ∀ o ∈ l.map OpD.pr, o.1 < 18446744073709551616 ∧ (∀ x ∈ o.2, x < 18446744073709551616) ∧ o.2.length ≤ 1048576 ∧ chk (o.1 : Nat) o.2 = 0 := by
  intro p hp
  obtain ⟨o, ho, rfl⟩ := List.mem_map.1 hp
  have h1 := f.ops o ho
  have h2 := chk_zero h1
  refine ⟨by simp only [OpD.pr]; omega, fun x hx => (f.w64 o ho x hx).lt, by simp only [OpD.pr]; omega, ?_⟩
  show chk ((o.k.toNat : Nat) : Int) o.ns = 0
  rw [Int.toNat_of_nonneg (by omega)]
  exact h1
theorem tapeB_eq (h : Hd) (l : List OpD) : tapeB h l.length l = 84 :: putAll (h.nums ++ [(l.map OpD.pr).length] ++ (l.map OpD.pr).flatMap fun o => o.1 :: o.2.length :: o.2) := by
  have e : (l.map OpD.pr).flatMap (fun o => o.1 :: o.2.length :: o.2) = l.flatMap OpD.nums := by rw [List.flatMap_map]; rfl
  rw [e, List.length_map]
  rfl
theorem tape_parsed {h : Hd} {l : List OpD} (f : Fit h l) (hd : 0 ≤ h.d) (r : List Nat) : parseP (tapeB h l.length l ++ r) = if r = [] then .ok (h.nums, l.map OpD.pr) else .error 3 := by
  obtain ⟨h1, h2, h3⟩ := f.hs hd
  rw [tapeB_eq]
  exact parseP_put h.nums (l.map OpD.pr) r h1 h2 h3 (by rw [List.length_map]; exact f.len) f.os
theorem tape_cut {h : Hd} {l : List OpD} (f : Fit h l) (hd : 0 ≤ h.d) (j : Nat) (hj : j < (tapeB h l.length l).length) : parseP ((tapeB h l.length l).take j) = .error (if j = 0 then 3 else 4) := by
  obtain ⟨h1, h2, h3⟩ := f.hs hd
  rw [tapeB_eq] at hj ⊢
  exact parseP_cut h.nums (l.map OpD.pr) j h1 h2 h3 (by rw [List.length_map]; exact f.len) f.os hj
theorem tapeB_bytes (h : Hd) (n : Nat) (l : List OpD) : ∀ x ∈ tapeB h n l, x < 256 := by
  intro x hx
  rcases List.mem_cons.1 hx with rfl | hx
  · omega
  · exact putAll_bytes _ x hx
end Go.Proofs.Ytdmdnijgjgjmkaa
