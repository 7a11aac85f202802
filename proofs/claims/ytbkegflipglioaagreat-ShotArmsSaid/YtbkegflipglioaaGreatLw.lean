/- A lifted law, called with two lists of numbers. -/
import Derived.Test.YtbkegflipglioaaGreatLv
set_option maxRecDepth 20000
namespace Go.SX.Y.Lc
open Go.SX Go.SX.Y Go.RowKit Go.Proofs Go.Proofs.YtbkegflipglioaaGreat
theorem rowsN_b {zs : List Nat} {B : Int} (h0 : 0 < B) (hb : ∀ x ∈ zs, (x : Int) < B) (i : Nat) : 0 ≤ elI (rowsN zs) i 0 ∧ elI (rowsN zs) i 0 < B := by
  have h : rowL (rowsN zs) i = [] ∨ ∃ x : Nat, x ∈ zs ∧ rowL (rowsN zs) i = [(x : Int)] := by
    unfold rowL rowsN
    rw [List.getD_eq_getElem?_getD, List.getElem?_map]
    cases h : zs[i]? with
    | none => exact Or.inl rfl
    | some x => exact Or.inr ⟨x, List.mem_of_getElem? h, rfl⟩
  unfold elI
  rcases h with h | ⟨x, hx, h⟩ <;> rw [h]
  · exact ⟨Int.le_refl 0, h0⟩
  · exact ⟨Int.natCast_nonneg x, hb x hx⟩
theorem env_of {k : IntKind} {zs : List Nat} {a : Option Addr} {n cap : Nat} {w : World} (hl : zs.length = n) (hv : Vec w (.slice a n cap) n (zs.map fun x => .int k (x : Nat))) :
    ∃ e : Env, (∀ m ν, (Ob.nwin [.i k] (rowsN zs)).holds m ν e w) ∧ ((Ob.nwin [.i k] (rowsN zs)).isW = true → e.blk < w.heap.size) ∧ ∀ m ν i, i < m → ν i = e → S.ok m ν (.nsl i (.v (lenR (rowsN zs))) false true) (.slice a n cap) := by
  obtain ⟨a', cap', h1, h2, h3, h4⟩ := hv
  injection h1 with e1 e2 e3
  subst e1 e3
  have ll : lenR (rowsN zs) = n := by unfold lenR rowsN; rw [List.length_map]; exact hl
  cases zs with
  | nil =>
    have n0 : n = 0 := by simpa using hl.symm
    subst n0
    refine ⟨⟨0, 0, 0, 0⟩, fun m ν => ⟨rfl, trivial⟩, fun h => (by cases h), fun m ν i hi he => ?_⟩
    simp only [S.ok, he]
    exact ⟨hi, Nat.le_refl _, fun _ => rfl, Or.inl ⟨trivial, a, cap, rfl, fun h => by cases h⟩⟩
  | cons x zs =>
    rcases h4 with h4 | ⟨b, o, rfl, hb, hc⟩
    · simp at h4
    refine ⟨⟨b, o, cap, n⟩, fun m ν => ⟨by simpa [rowsN] using hl.symm, _, oks_rows k m ν (x :: zs), hc⟩, fun _ => hb, fun m ν i hi he => ?_⟩
    simp only [S.ok, he]
    have np : 0 < n := by rw [← hl]; simp
    have ll2 : NN.val (.v (lenR (rowsN (x :: zs)))) = n := ll
    rw [ll2]
    exact ⟨hi, Nat.le_refl _, fun _ => rfl, Or.inr ⟨np, h2, h3, rfl⟩⟩
theorem win_ok2 {k1 k2 : IntKind} {z1 z2 : List Nat} {a1 a2 : Option Addr} {n1 c1 n2 c2 : Nat} {w : World} (hl1 : z1.length = n1) (hv1 : Vec w (.slice a1 n1 c1) n1 (z1.map fun x => .int k1 (x : Nat)))
    (hl2 : z2.length = n2) (hv2 : Vec w (.slice a2 n2 c2) n2 (z2.map fun x => .int k2 (x : Nat))) :
    ∃ ν : Nat → Env, HOk noW w [] ν [.nwin [.i k1] (rowsN z1), .nwin [.i k2] (rowsN z2)] w ∧ S.ok 2 ν (.nsl 0 (.v (lenR (rowsN z1))) false true) (.slice a1 n1 c1) ∧ S.ok 2 ν (.nsl 1 (.v (lenR (rowsN z2))) false true) (.slice a2 n2 c2) := by
  obtain ⟨e1, p1, p2, p3⟩ := env_of hl1 hv1
  obtain ⟨e2, q1, q2, q3⟩ := env_of hl2 hv2
  refine ⟨fun i => if i = 0 then e1 else e2, ⟨Upd.refl _ _, ?_, ?_, ?_, ?_, ?_⟩, p3 _ _ 0 (by omega) rfl, q3 _ _ 1 (by omega) rfl⟩
  · intro i o ho
    match i, ho with
    | 0, ho => simp only [List.getElem?_cons_zero, Option.some.injEq] at ho; subst ho; exact p1 _ _
    | 1, ho => simp only [List.getElem?_cons_succ, List.getElem?_cons_zero, Option.some.injEq] at ho; subst ho; exact q1 _ _
    | i + 2, ho => simp at ho
  · intro i o ho hw
    match i, ho with
    | 0, ho => simp only [List.getElem?_cons_zero, Option.some.injEq] at ho; subst ho; cases hw
    | 1, ho => simp only [List.getElem?_cons_succ, List.getElem?_cons_zero, Option.some.injEq] at ho; subst ho; cases hw
    | i + 2, ho => simp at ho
  · intro i j o o' _ ho _ hw _
    match i, ho with
    | 0, ho => simp only [List.getElem?_cons_zero, Option.some.injEq] at ho; subst ho; cases hw
    | 1, ho => simp only [List.getElem?_cons_succ, List.getElem?_cons_zero, Option.some.injEq] at ho; subst ho; cases hw
    | i + 2, ho => simp at ho
  · intro i o ho hw
    match i, ho with
    | 0, ho => simp only [List.getElem?_cons_zero, Option.some.injEq] at ho; subst ho; exact ⟨p2 hw, by simp⟩
    | 1, ho => simp only [List.getElem?_cons_succ, List.getElem?_cons_zero, Option.some.injEq] at ho; subst ho; exact ⟨q2 hw, by simp⟩
    | i + 2, ho => simp at ho
  · intro b o m cs h; cases h
end Go.SX.Y.Lc
