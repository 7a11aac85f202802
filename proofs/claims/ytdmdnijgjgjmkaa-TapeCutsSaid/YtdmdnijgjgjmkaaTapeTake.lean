/- tape.Parse: the closure that takes the next number. -/
import Derived.Test.YtdmdnijgjgjmkaaProg
import Derived.Test.YtdmdnijgjgjmkaaParseP
import Derived.Test.YtdmdnijgjgjmkaaScript26
set_option maxRecDepth 20000
namespace Go.Proofs.Ytdmdnijgjgjmkaa
open Go.RowKit

theorem vec_drop {w : World} {a : Option Addr} {cap : Nat} {d : List Nat} (h : Vec w (.slice a d.length cap) d.length (bys d)) (k : Nat) (hk : k ≤ d.length) :
    Vec w (.slice (a.map fun x => x.add k) (d.length - k) (d.length - k)) (d.drop k).length (bys (d.drop k)) := by
  obtain ⟨a', cap', h1, h2, h3, h4⟩ := h
  simp only [Value.slice.injEq, true_and] at h1
  obtain ⟨rfl, rfl⟩ := h1
  rw [List.length_drop]
  refine ⟨_, _, rfl, Nat.le_refl _, by omega, ?_⟩
  rcases h4 with h4 | ⟨b, o, rfl, hb, hc⟩
  · have := congrArg List.length h4
    rw [bys_len, List.length_nil] at this
    exact Or.inl (by rw [List.eq_nil_of_length_eq_zero this]; simp [bys])
  · refine Or.inr ⟨b, o + k, by simp [Addr.add_mid], hb, fun j u hj => ?_⟩
    rw [Nat.add_assoc]
    refine hc (k + j) u ?_
    simpa [bys, List.getElem?_drop] using hj
theorem vec_drop0 {w : World} {a : Option Addr} {d : List Nat} (k : Nat) (hk : d.length ≤ k) : Vec w (.slice a 0 0) (d.drop k).length (bys (d.drop k)) := by
  rw [List.drop_eq_nil_of_le hk]
  exact ⟨a, 0, rfl, by simp, by simp, Or.inl rfl⟩
theorem tape_take (w0 : World) (v : Value) (d : List Nat) (g great : Nat) (tb to bb eb : Nat) (T : TypeId) (cs : List Value) (e0 : Value) (w : World) (hd : ∀ x ∈ d, x < 256) (hv : Vec w0 v d.length (bys d)) (hU : Upd [] w0 w)
    (hT : Blk w tb T cs) (hto : to < cs.length) (hB : Blk w bb 53 [v]) (hE : Blk w eb 26 [e0]) (h1 : tb ≠ bb) (h2 : w0.heap.size ≤ tb) (h3 : w0.heap.size ≤ bb) (hg : g < 18446744073709551616) (hgr : great ≠ 0 ∧ great < 100) :
    Calls Try.prog 50 #[.pointer (some ⟨tb, to, none⟩), .int .u64 g, .int .i64 great, .pointer (some ⟨bb, 0, none⟩), .pointer (some ⟨eb, 0, none⟩)] w fun e w' =>
      (∃ err, takeP g great d = .error err ∧ err ≠ 0 ∧ e = .returned (.bool false) ∧ Blk w' eb 26 [.int .i64 (err : Nat)] ∧ Upd [eb] w w') ∨
      (∃ n d', takeP g great d = .ok (n, d') ∧ e = .returned (.bool true) ∧ Blk w' tb T (cs.set to (.int .u64 (n : Nat))) ∧ ∃ v', Blk w' bb 53 [v'] ∧ Vec w0 v' d'.length (bys d') ∧ Upd [tb, bb] w w') := by
  have hv0 := hv
  obtain ⟨a, cap, rfl, hcap, hmax, hcell⟩ := hv
  have c0 := hB.get 0 rfl
  have hok := Held.mk (fun h => getN_ok (l := d) hd h)
  have hbad := Held.mk (fun h => getN_bad (l := d) h)
  have hP : Held (takeP g great d = if (getN d).2.2 = 0 then (if g < (getN d).1 then .error great else .ok ((getN d).1, d.drop (getN d).2.1)) else .error (getN d).2.2) := ⟨rfl⟩
  go_enter Try.func50, Try.ntmps50
  go_wp2_with fail
  refine (tape_get _ d _ hd (hv0.upd hU)).mono ?_
  rintro e w1 ⟨rfl, hu1⟩
  generalize getN d = G at *
  obtain ⟨gn, gk, ge⟩ := G
  dsimp only at hok hbad hP ⊢
  by_cases hge : ge = 0
  · obtain ⟨hk1, hk2, hg64, hput⟩ := hok.out hge
    subst hge
    clear hput hok hbad
    by_cases hgg : g < gn
    · have hP' : takeP g great d = .error great := by rw [hP.out, if_pos rfl, if_pos hgg]
      have hP2 := Held.mk hP'
      have hgg' : (g : Int) < gn := by omega
      have hE1 := hE.upd hu1 (by simp)
      have e1 := hE1.get 0 rfl
      have e2 := hE1.free 0
      have hgr1 : ¬ (great : Int) = 0 := by omega
      clear hP hP' hcell
      go_wp2_with fail
      all_goals go_ret
      refine Or.inl ⟨great, hP2.out, hgr.1, rfl, hE1.set (i := 0) _, ?_⟩
      exact (hu1.mono (S' := [eb]) (by simp)).setCell ⟨eb, 0, none⟩ _ (Or.inl (by simp))
    · have hP' : takeP g great d = .ok (gn, d.drop gk) := by rw [hP.out, if_pos rfl, if_neg hgg]
      have hP2 := Held.mk hP'
      have hgg' : ¬ (g : Int) < gn := by omega
      have hB1 := hB.upd hu1 (by simp)
      have b1 := hB1.get 0 rfl
      have b2 := hB1.free 0
      have hT1 := hT.upd hu1 (by simp)
      have t2 := hT1.free to
      have t1 : ∃ u, w1.cell? ⟨tb, to, none⟩ = some u := ⟨cs[to], hT1.get to (by simp [hto])⟩
      obtain ⟨tu, t1⟩ := t1
      have hk1' : (0 : Int) ≤ gk := by omega
      have hk2' : (gk : Int) ≤ d.length := by omega
      clear hP hP'
      go_wp2_with fail
      go_region
      all_goals go_wp2_with fail
      all_goals go_ret
      all_goals
        refine Or.inr ⟨gn, d.drop gk, hP2.out, rfl, ((hT1.set _).far _ h1).drew, _, ((hB1.far _ (Ne.symm h1)).set (i := 0) _).drew, ?_, ?_⟩
        · first
            | exact vec_drop hv0 gk hk2
            | exact vec_drop0 gk (by omega)
        · exact (((hu1.mono (S' := [tb, bb]) (by simp)).setCell ⟨tb, to, none⟩ _ (Or.inl (by simp))).setCell ⟨bb, 0, none⟩ _ (Or.inl (by simp))).drew
  · obtain ⟨rfl, rfl, h34⟩ := hbad.out hge
    have hP' : takeP g great d = .error ge := by rw [hP.out, if_neg hge]
    have hP2 := Held.mk hP'
    have hge2 := Held.mk hge
    have hE1 := hE.upd hu1 (by simp)
    have e1 := hE1.get 0 rfl
    have e2 := hE1.free 0
    clear hP hP' hok hbad hcell
    rcases h34 with rfl | rfl
    all_goals
      go_wp2_with fail
      all_goals go_ret
      refine Or.inl ⟨_, hP2.out, hge2.out, rfl, hE1.set (i := 0) _, ?_⟩
      exact (hu1.mono (S' := [eb]) (by simp)).setCell ⟨eb, 0, none⟩ _ (Or.inl (by simp))
end Go.Proofs.Ytdmdnijgjgjmkaa
