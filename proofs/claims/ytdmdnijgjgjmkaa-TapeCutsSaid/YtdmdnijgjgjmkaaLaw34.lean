/- The law's comparison of bytes. -/
import Derived.Test.YtdmdnijgjgjmkaaProg
import Derived.Test.YtdmdnijgjgjmkaaTapePut
set_option maxRecDepth 20000
namespace Go.Proofs.Ytdmdnijgjgjmkaa
open Go.RowKit

theorem l34_same (va vb : Value) (la lb : List Nat) (w : World) (ha : Vec w va la.length (bys la)) (hb : Vec w vb lb.length (bys lb)) :
    Calls Try.prog 29 #[va, vb] w fun e w' => e = .returned (.bool (decide (la = lb))) ∧ Upd [] w w' := by
  obtain ⟨a, cap, rfl, hcap, hmax, hcell⟩ := ha
  obtain ⟨b, cap2, rfl, hcap2, hmax2, hcell2⟩ := hb
  go_enter Try.func29, Try.ntmps29
  by_cases hl : la.length = lb.length
  · have hlB : Held (la.length = lb.length) := ⟨hl⟩
    have hl1 : ((la.length : Int) != lb.length) = false := by simp [hl]
    clear hl
    go_wp2_with fail
    go_loopw [5] (fun i wr => ∃ j : Nat, i = .int .i64 j ∧ j ≤ la.length ∧ Held (la.take j = lb.take j) ∧ Upd [] w wr) (fun i _ => la.length - (intOf i).toNat)
    case atStart => exact ⟨0, rfl, by omega, ⟨by simp⟩, Upd.refl _ _⟩
    case round =>
      obtain ⟨j, rfl, hj, heq, hU⟩ := hrel
      by_cases hlt : j < la.length
      · have hlt2 : j < lb.length := by have := hlB.out; omega
        rcases hcell with h0 | ⟨b1, o1, rfl, hb1, hc1⟩
        · have := congrArg List.length h0; simp only [bys, List.length_map, List.length_nil] at this; omega
        rcases hcell2 with h0 | ⟨b2, o2, rfl, hb2, hc2⟩
        · have := congrArg List.length h0; simp only [bys, List.length_map, List.length_nil] at this; omega
        have hck1 : wr.cell? ⟨b1, o1 + j, none⟩ = some (.int .u8 (la[j] : Nat)) := (hU.cell hb1 (by simp)).trans (hc1 j _ (by simp [bys, hlt]))
        have hck2 : wr.cell? ⟨b2, o2 + j, none⟩ = some (.int .u8 (lb[j] : Nat)) := (hU.cell hb2 (by simp)).trans (hc2 j _ (by simp [bys, hlt2]))
        have hkc1 : j < cap := Nat.lt_of_lt_of_le hlt hcap
        have hkc2 : j < cap2 := Nat.lt_of_lt_of_le hlt2 hcap2
        have ht1 : Held (la.take (j + 1) = la.take j ++ [la[j]]) := ⟨List.take_succ_eq_append_getElem hlt⟩
        have ht2 : Held (lb.take (j + 1) = lb.take j ++ [lb[j]]) := ⟨List.take_succ_eq_append_getElem hlt2⟩
        have hne : Held (la[j] ≠ lb[j] → la ≠ lb) := ⟨fun h e => h (by subst e; rfl)⟩
        have hb63 : Held (la.length ≤ 9223372036854775807) := ⟨by have := maxLen_eq; omega⟩
        generalize la[j] = x at *
        generalize lb[j] = y at *
        clear hc1 hc2
        go_wp2_with fail
        go_region
        by_cases hxy : x = y
        · have e1 : ((x : Int) != y) = false := by simp [hxy]
          have hxy' : Held (x = y) := ⟨hxy⟩
          clear hxy
          go_wp2_with fail
          have hw : wrap64 ((j : Int) + 1) = ((j + 1 : Nat) : Int) := by have := hb63.out; rw [wrap64_small _ (by omega)]; rfl
          rw [hw]
          refine ⟨⟨j + 1, rfl, by omega, ⟨?_⟩, by (first | exact hU | exact hU.drew | (refine Upd.drewN ?_ _; exact hU) | skip)⟩, ?_⟩
          · rw [ht1.out, ht2.out, heq.out, hxy'.out]
          · clear hw; simp only [intOf]; omega
        · have e1 : ((x : Int) != y) = true := by simp; omega
          have hd : Held (la ≠ lb) := ⟨hne.out hxy⟩
          go_wp2_with fail
          all_goals
            go_ret
            refine ⟨?_, by (first | exact hU | exact hU.drew | (refine Upd.drewN ?_ _; exact hU) | skip)⟩
            rw [decide_eq_false hd.out]
            rfl
      · have hd : Held (la = lb) := ⟨by
          have h1 := heq.out
          have h2 := hlB.out
          rwa [List.take_of_length_le (by omega), List.take_of_length_le (by omega)] at h1⟩
        clear hcell hcell2
        go_wp2_with fail
        go_ret
        refine ⟨?_, hU⟩
        rw [decide_eq_true hd.out]
        rfl
  · have hd : Held (decide (la = lb) = false) := ⟨by simp; intro h; exact hl (by rw [h])⟩
    have hl1 : ((la.length : Int) != lb.length) = true := by simp; omega
    clear hcell hcell2
    go_wp2_with fail
    all_goals
      go_ret
      rw [hd.out]
      exact ⟨rfl, Upd.refl _ _⟩
end Go.Proofs.Ytdmdnijgjgjmkaa
