/- TapeNumbers: the walk. -/
import Derived.Test.YtdmdnijgjgjmkaaProg
import Derived.Test.YtdmdnijgjgjmkaaNumP
import Derived.Test.YtdmdnijgjgjmkaaKnown34
import Derived.Test.YtdmdnijgjgjmkaaAny
set_option maxRecDepth 20000
namespace Go.Proofs.Ytdmdnijgjgjmkaa
open Go.RowKit

theorem Vec.pre {w : World} {a : Option Addr} {n n' cap : Nat} {cells : List Value} (h : Vec w (.slice a n' cap) n cells) (k m : Nat) (hk : k ≤ n) : Vec w (.slice a k cap) k (cells.take m) := by
  obtain ⟨a', cap', h1, h2, h3, h4⟩ := h
  simp only [Value.slice.injEq] at h1
  obtain ⟨rfl, _, rfl⟩ := h1
  refine ⟨a, cap, rfl, by omega, h3, ?_⟩
  rcases h4 with h4 | ⟨b, o, ha, hb, hc⟩
  · exact Or.inl (by rw [h4]; simp)
  · refine Or.inr ⟨b, o, ha, hb, fun j u hj => hc j u ?_⟩
    rw [List.getElem?_take] at hj
    split at hj
    · exact hj
    · cases hj
theorem bys_take (l : List Nat) (k : Nat) : (bys l).take k = bys (l.take k) := by simp [bys, List.map_take]
theorem vec_suf {w : World} {b o c : Nat} {A Y X : List Nat} (hXY : A ++ Y = X) (hc : X.length ≤ c) (hm : c ≤ maxLen) (hb : b < w.heap.size) (hv : ∀ j u, (bys X)[j]? = some u → w.cell? ⟨b, o + j, none⟩ = some u) :
    Vec w (.slice (some ⟨b, o + A.length, none⟩) (X.length - A.length) (c - A.length)) Y.length (bys Y) := by
  subst hXY
  rw [List.length_append] at *
  refine ⟨some ⟨b, o + A.length, none⟩, c - A.length, by rw [Nat.add_sub_cancel_left], by omega, by omega, Or.inr ⟨b, o + A.length, rfl, hb, fun j u hj => ?_⟩⟩
  rw [Nat.add_assoc]
  refine hv (A.length + j) u ?_
  rw [bys_append, List.getElem?_append_right (by rw [bys_len]; omega), bys_len, Nat.add_sub_cancel_left]
  exact hj
theorem vec_sufi {w : World} {b o c : Nat} {A Y X : List Nat} (hXY : A ++ Y = X) (hc : X.length ≤ c) (hm : c ≤ maxLen) (hb : b < w.heap.size) (hv : ∀ j u, (bys X)[j]? = some u → w.cell? ⟨b, o + j, none⟩ = some u) :
    Vec w (.slice (if c = A.length then some ⟨b, o, none⟩ else some ⟨b, o + A.length, none⟩) (X.length - A.length) (c - A.length)) Y.length (bys Y) := by
  split
  · subst hXY
    rw [List.length_append] at *
    have hY : Y = [] := List.eq_nil_of_length_eq_zero (by omega)
    subst hY
    exact ⟨_, c - A.length, by rw [Nat.add_sub_cancel_left], by simp, by omega, Or.inl rfl⟩
  · exact vec_suf hXY hc hm hb hv
set_option maxHeartbeats 40000000 in
theorem l34_numbers (a b : Option Addr) (n k cap cap2 : Nat) (zs bs : List Nat) (w : World) (hn : n ≤ cap) (hk : k ≤ cap2) (hcap : cap ≤ maxLen) (hcap2 : cap2 ≤ maxLen) (hz : zs.length = min n 20) (hb : bs.length = min k 20)
    (hvz : Vec w (.slice a zs.length cap) zs.length (u64s zs)) (hvb : Vec w (.slice b bs.length cap2) bs.length (bys bs)) (hz64 : ∀ x ∈ zs, W64 x) (hb8 : ∀ x ∈ bs, x < 256) :
    Calls Try.prog 6 #[.slice a n cap, .slice b k cap2] w fun e w' => e = .returned (.bool true) ∧ Upd [] w w' := by
  have hvz' : ∀ N, N = zs.length → Vec w (.slice a N cap) zs.length (u64s zs) := by rintro _ rfl; exact hvz
  have hvb' : ∀ N, N = bs.length → Vec w (.slice b N cap2) bs.length (bys bs) := by rintro _ rfl; exact hvb
  have hzl : Held (zs.length ≤ 20) := ⟨by omega⟩
  have hbl : Held (bs.length ≤ 20) := ⟨by omega⟩
  have hUd : Upd [] w w.drew := (Upd.refl _ _).drew
  go_enter Try.func6, Try.ntmps6
  go_wp2_with fail
  go_region
  go_wp2_with fail
  all_goals
    have hvz1 := (hvz' _ (show _ = zs.length by first | exact (show 20 = zs.length by omega) | exact (show n = zs.length by omega))).upd hUd
    have hvb1 := (hvb' _ (show _ = bs.length by first | exact (show 20 = bs.length by omega) | exact (show k = bs.length by omega))).upd hUd
    refine (tape_put _ zs _ hvz1 hz64 ⟨by omega⟩).mono ?_
    rintro e w1 ⟨v1, rfl, hown1, hu1⟩
    have hV1 := vec_of_own hown1
    have hU1 := hUd.trans hu1
    clear hown1
    go_wp2_with fail
    refine (tape_get _ bs _ hb8 (hvb1.upd hu1)).mono ?_
    rintro e w2 ⟨rfl, hu2⟩
    go_wp2_with fail
    refine (ref34_get _ bs 0 _ hb8 (hvb1.upd (hu1.trans hu2)) (by omega)).mono ?_
    rintro e w3 ⟨rfl, hu3⟩
    rw [List.drop_zero]
    have hU3 := (hU1.trans hu2).trans hu3
    have hV3 := hV1.upd (hu2.trans hu3)
    have hvz3 := hvz1.upd ((hu1.trans hu2).trans hu3)
    have hvb3 := hvb1.upd ((hu1.trans hu2).trans hu3)
    clear hU1 hu2 hu3 hu1 hvz1 hvb1 hV1
    go_wp2_with fail
    have hok := Held.mk (fun h => getN_ok (l := bs) hb8 h)
    have hbad := Held.mk (fun h => getN_bad (l := bs) h)
    have h63 := maxLen_eq
    generalize hG : getN bs = G at *
    obtain ⟨gn, gk, ge⟩ := G
    dsimp only at hok hbad ⊢
    rename_i W
    by_cases hge : ge = 0
    all_goals first
      | (
        have hok1 := hok.out hge
        obtain ⟨hk1, hk2, hg64, hput⟩ := hok1
        have hput' : Held (putOne gn = bs.take gk) := ⟨hput⟩
        have hge' : Held (ge = 0) := ⟨hge⟩
        subst hge
        clear hput hok hbad
        have hlk : (bs.take gk).length = gk := by rw [List.length_take]; omega
        have hput2 : Held (putAll [gn] = bs.take gk) := ⟨by have := hput'.out; simpa [putAll] using this⟩
        have hvk : Held (∀ W N, Upd [] w3 W → N = gk → Vec W (.slice b N cap2) (bs.take gk).length (bys (bs.take gk))) := ⟨by
          rintro W _ hu rfl
          rw [hlk, ← bys_take]
          exact ((hvb3.upd hu).pre _ _ (by omega))⟩
        have hgkc : (gk : Int) ≤ cap2 := by omega
        have hgk0 : (0 : Int) ≤ gk := by omega
        have hgw : ∀ n ∈ [gn], W64 n := fun n hn => by rw [List.mem_singleton.1 hn]; exact ⟨hg64⟩
        have h1len : Held ([gn].length ≤ 1000000000000) := ⟨by simp⟩
        clear h63
        go_region_held3 (fun w' => Upd [] w3 w') (first | exact (Upd.refl _ _).drew | exact Upd.trans (by assumption) (by assumption) | exact Upd.trans (by assumption) (upd_new _ _)) (first
          | (go_at_call 30; refine (ref34_put _ zs _ (hvz3.upd (by assumption)) hz64 ⟨by omega⟩).mono ?_; rintro e w4 ⟨v2, rfl, hown2, hu4⟩; have hV4 := vec_of_own hown2; clear hown2)
          | (go_at_call 29; have hg := hV6; clear hg; refine (l34_same _ _ (putAll [gn]) (bs.take gk) _ (by assumption) (hvk.out _ _ (by assumption) rfl)).mono ?_; rintro e w7 ⟨rfl, hu7⟩; rw [decide_eq_true hput2.out])
          | (go_at_call 29; refine (l34_same _ _ (putAll zs) (putAll zs) _ (hV3.upd (by assumption)) (by assumption)).mono ?_; rintro e w5 ⟨rfl, hu5⟩; rw [decide_eq_true rfl])
          | (go_at_call 26; refine (tape_put _ [gn] _ (vec_new _ 55 (u64s [gn]) 1 (by decide)) hgw h1len).mono ?_; rintro e w6 ⟨v6, rfl, hown6, hu6⟩; have hV6 := vec_of_own hown6; clear hown6))
        have hUx : Upd [] w3 w7 := by assumption
        have hUw := hU3.trans hUx
        have hVx := hV3.upd hUx
        clear hV3 hvb3 hvk hput' hput2 hge' hk1 hk2 hg64)
      | (
        obtain ⟨rfl, rfl, h34⟩ := hbad.out hge
        clear hok hbad hge h63
        rcases h34 with rfl | rfl
        all_goals
          refine wp_region_any (by kernel_rfl) ?_
          change wpAny _ _ _ _ _ _ _ (World.drew _)
          ((first | (refine take_yes (i := 0) (v := ?_) (by simp only [List.getElem?_toArray, List.getElem?_cons_succ, List.getElem?_cons_zero]; rfl) (by kernel_rfl) (by kernel_rfl) (by kernel_rfl) (by exact fun _ _ _ h => h) (by rfl) ?_ ?_; rotate_left 1; focus (intro w; go_simp; all_goals with_reducible rfl)) | (refine take_no (i := 0) (by simp only [List.getElem?_toArray, List.getElem?_cons_succ, List.getElem?_cons_zero]; rfl) (by kernel_rfl) (by kernel_rfl) (by kernel_rfl) (by exact fun _ _ _ h => h) (by rfl) ?_)); try simp only [Act.put, List.setIfInBounds_toArray, List.set_cons_zero, List.set_cons_succ]); ((first | (refine take_yes (i := 1) (v := ?_) (by simp only [List.getElem?_toArray, List.getElem?_cons_succ, List.getElem?_cons_zero]; rfl) (by kernel_rfl) (by kernel_rfl) (by kernel_rfl) (by exact fun _ _ _ h => h) (by rfl) ?_ ?_; rotate_left 1; focus (intro w; go_simp; all_goals with_reducible rfl)) | (refine take_no (i := 1) (by simp only [List.getElem?_toArray, List.getElem?_cons_succ, List.getElem?_cons_zero]; rfl) (by kernel_rfl) (by kernel_rfl) (by kernel_rfl) (by exact fun _ _ _ h => h) (by rfl) ?_)); try simp only [Act.put, List.setIfInBounds_toArray, List.set_cons_zero, List.set_cons_succ])
          refine any1 2 (by kernel_rfl) rfl rfl (fun K hK => ?_)
          go_wp2_with (go_at_call 30; refine (ref34_put _ zs _ (hvz3.upd ((Upd.refl _ _).drew)) hz64 ⟨by have := hzl.out; omega⟩).mono ?_; rintro e w4 ⟨v2, rfl, hown2, hu4⟩; have hV4 := vec_of_own hown2; clear hown2; have hU4 := ((Upd.refl [] w3).drew).trans hu4)
          refine any1 3 (by kernel_rfl) rfl rfl (fun K hK => ?_)
          go_wp2_with (go_at_call 29; refine (l34_same _ _ (putAll zs) (putAll zs) _ (hV3.upd hU4) hV4).mono ?_; rintro e w5 ⟨rfl, hu5⟩; rw [decide_eq_true rfl]; have hU5 := hU4.trans hu5)
          ((first | (refine take_yes (i := 4) (v := ?_) (by simp only [List.getElem?_toArray, List.getElem?_cons_succ, List.getElem?_cons_zero]; rfl) (by kernel_rfl) (by kernel_rfl) (by kernel_rfl) (by exact fun _ _ _ h => h) (by rfl) ?_ ?_; rotate_left 1; focus (intro w; go_simp; all_goals with_reducible rfl)) | (refine take_no (i := 4) (by simp only [List.getElem?_toArray, List.getElem?_cons_succ, List.getElem?_cons_zero]; rfl) (by kernel_rfl) (by kernel_rfl) (by kernel_rfl) (by exact fun _ _ _ h => h) (by rfl) ?_)); try simp only [Act.put, List.setIfInBounds_toArray, List.set_cons_zero, List.set_cons_succ]); ((first | (refine take_yes (i := 5) (v := ?_) (by simp only [List.getElem?_toArray, List.getElem?_cons_succ, List.getElem?_cons_zero]; rfl) (by kernel_rfl) (by kernel_rfl) (by kernel_rfl) (by exact fun _ _ _ h => h) (by rfl) ?_ ?_; rotate_left 1; focus (intro w; go_simp; all_goals with_reducible rfl)) | (refine take_no (i := 5) (by simp only [List.getElem?_toArray, List.getElem?_cons_succ, List.getElem?_cons_zero]; rfl) (by kernel_rfl) (by kernel_rfl) (by kernel_rfl) (by exact fun _ _ _ h => h) (by rfl) ?_)); try simp only [Act.put, List.setIfInBounds_toArray, List.set_cons_zero, List.set_cons_succ]); ((first | (refine take_yes (i := 6) (v := ?_) (by simp only [List.getElem?_toArray, List.getElem?_cons_succ, List.getElem?_cons_zero]; rfl) (by kernel_rfl) (by kernel_rfl) (by kernel_rfl) (by exact fun _ _ _ h => h) (by rfl) ?_ ?_; rotate_left 1; focus (intro w; go_simp; all_goals with_reducible rfl)) | (refine take_no (i := 6) (by simp only [List.getElem?_toArray, List.getElem?_cons_succ, List.getElem?_cons_zero]; rfl) (by kernel_rfl) (by kernel_rfl) (by kernel_rfl) (by exact fun _ _ _ h => h) (by rfl) ?_)); try simp only [Act.put, List.setIfInBounds_toArray, List.set_cons_zero, List.set_cons_succ]); ((first | (refine take_yes (i := 7) (v := ?_) (by simp only [List.getElem?_toArray, List.getElem?_cons_succ, List.getElem?_cons_zero]; rfl) (by kernel_rfl) (by kernel_rfl) (by kernel_rfl) (by exact fun _ _ _ h => h) (by rfl) ?_ ?_; rotate_left 1; focus (intro w; go_simp; all_goals with_reducible rfl)) | (refine take_no (i := 7) (by simp only [List.getElem?_toArray, List.getElem?_cons_succ, List.getElem?_cons_zero]; rfl) (by kernel_rfl) (by kernel_rfl) (by kernel_rfl) (by exact fun _ _ _ h => h) (by rfl) ?_)); try simp only [Act.put, List.setIfInBounds_toArray, List.set_cons_zero, List.set_cons_succ]); ((first | (refine take_yes (i := 8) (v := ?_) (by simp only [List.getElem?_toArray, List.getElem?_cons_succ, List.getElem?_cons_zero]; rfl) (by kernel_rfl) (by kernel_rfl) (by kernel_rfl) (by exact fun _ _ _ h => h) (by rfl) ?_ ?_; rotate_left 1; focus (intro w; go_simp; all_goals with_reducible rfl)) | (refine take_no (i := 8) (by simp only [List.getElem?_toArray, List.getElem?_cons_succ, List.getElem?_cons_zero]; rfl) (by kernel_rfl) (by kernel_rfl) (by kernel_rfl) (by exact fun _ _ _ h => h) (by rfl) ?_)); try simp only [Act.put, List.setIfInBounds_toArray, List.set_cons_zero, List.set_cons_succ]); ((first | (refine take_yes (i := 9) (v := ?_) (by simp only [List.getElem?_toArray, List.getElem?_cons_succ, List.getElem?_cons_zero]; rfl) (by kernel_rfl) (by kernel_rfl) (by kernel_rfl) (by exact fun _ _ _ h => h) (by rfl) ?_ ?_; rotate_left 1; focus (intro w; go_simp; all_goals with_reducible rfl)) | (refine take_no (i := 9) (by simp only [List.getElem?_toArray, List.getElem?_cons_succ, List.getElem?_cons_zero]; rfl) (by kernel_rfl) (by kernel_rfl) (by kernel_rfl) (by exact fun _ _ _ h => h) (by rfl) ?_)); try simp only [Act.put, List.setIfInBounds_toArray, List.set_cons_zero, List.set_cons_succ]); ((first | (refine take_yes (i := 10) (v := ?_) (by simp only [List.getElem?_toArray, List.getElem?_cons_succ, List.getElem?_cons_zero]; rfl) (by kernel_rfl) (by kernel_rfl) (by kernel_rfl) (by exact fun _ _ _ h => h) (by rfl) ?_ ?_; rotate_left 1; focus (intro w; go_simp; all_goals with_reducible rfl)) | (refine take_no (i := 10) (by simp only [List.getElem?_toArray, List.getElem?_cons_succ, List.getElem?_cons_zero]; rfl) (by kernel_rfl) (by kernel_rfl) (by kernel_rfl) (by exact fun _ _ _ h => h) (by rfl) ?_)); try simp only [Act.put, List.setIfInBounds_toArray, List.set_cons_zero, List.set_cons_succ]); ((first | (refine take_yes (i := 11) (v := ?_) (by simp only [List.getElem?_toArray, List.getElem?_cons_succ, List.getElem?_cons_zero]; rfl) (by kernel_rfl) (by kernel_rfl) (by kernel_rfl) (by exact fun _ _ _ h => h) (by rfl) ?_ ?_; rotate_left 1; focus (intro w; go_simp; all_goals with_reducible rfl)) | (refine take_no (i := 11) (by simp only [List.getElem?_toArray, List.getElem?_cons_succ, List.getElem?_cons_zero]; rfl) (by kernel_rfl) (by kernel_rfl) (by kernel_rfl) (by exact fun _ _ _ h => h) (by rfl) ?_)); try simp only [Act.put, List.setIfInBounds_toArray, List.set_cons_zero, List.set_cons_succ]); ((first | (refine take_yes (i := 12) (v := ?_) (by simp only [List.getElem?_toArray, List.getElem?_cons_succ, List.getElem?_cons_zero]; rfl) (by kernel_rfl) (by kernel_rfl) (by kernel_rfl) (by exact fun _ _ _ h => h) (by rfl) ?_ ?_; rotate_left 1; focus (intro w; go_simp; all_goals with_reducible rfl)) | (refine take_no (i := 12) (by simp only [List.getElem?_toArray, List.getElem?_cons_succ, List.getElem?_cons_zero]; rfl) (by kernel_rfl) (by kernel_rfl) (by kernel_rfl) (by exact fun _ _ _ h => h) (by rfl) ?_)); try simp only [Act.put, List.setIfInBounds_toArray, List.set_cons_zero, List.set_cons_succ]); ((first | (refine take_yes (i := 13) (v := ?_) (by simp only [List.getElem?_toArray, List.getElem?_cons_succ, List.getElem?_cons_zero]; rfl) (by kernel_rfl) (by kernel_rfl) (by kernel_rfl) (by exact fun _ _ _ h => h) (by rfl) ?_ ?_; rotate_left 1; focus (intro w; go_simp; all_goals with_reducible rfl)) | (refine take_no (i := 13) (by simp only [List.getElem?_toArray, List.getElem?_cons_succ, List.getElem?_cons_zero]; rfl) (by kernel_rfl) (by kernel_rfl) (by kernel_rfl) (by exact fun _ _ _ h => h) (by rfl) ?_)); try simp only [Act.put, List.setIfInBounds_toArray, List.set_cons_zero, List.set_cons_succ]); ((first | (refine take_yes (i := 14) (v := ?_) (by simp only [List.getElem?_toArray, List.getElem?_cons_succ, List.getElem?_cons_zero]; rfl) (by kernel_rfl) (by kernel_rfl) (by kernel_rfl) (by exact fun _ _ _ h => h) (by rfl) ?_ ?_; rotate_left 1; focus (intro w; go_simp; all_goals with_reducible rfl)) | (refine take_no (i := 14) (by simp only [List.getElem?_toArray, List.getElem?_cons_succ, List.getElem?_cons_zero]; rfl) (by kernel_rfl) (by kernel_rfl) (by kernel_rfl) (by exact fun _ _ _ h => h) (by rfl) ?_)); try simp only [Act.put, List.setIfInBounds_toArray, List.set_cons_zero, List.set_cons_succ]); ((first | (refine take_yes (i := 15) (v := ?_) (by simp only [List.getElem?_toArray, List.getElem?_cons_succ, List.getElem?_cons_zero]; rfl) (by kernel_rfl) (by kernel_rfl) (by kernel_rfl) (by exact fun _ _ _ h => h) (by rfl) ?_ ?_; rotate_left 1; focus (intro w; go_simp; all_goals with_reducible rfl)) | (refine take_no (i := 15) (by simp only [List.getElem?_toArray, List.getElem?_cons_succ, List.getElem?_cons_zero]; rfl) (by kernel_rfl) (by kernel_rfl) (by kernel_rfl) (by exact fun _ _ _ h => h) (by rfl) ?_)); try simp only [Act.put, List.setIfInBounds_toArray, List.set_cons_zero, List.set_cons_succ]); ((first | (refine take_yes (i := 16) (v := ?_) (by simp only [List.getElem?_toArray, List.getElem?_cons_succ, List.getElem?_cons_zero]; rfl) (by kernel_rfl) (by kernel_rfl) (by kernel_rfl) (by exact fun _ _ _ h => h) (by rfl) ?_ ?_; rotate_left 1; focus (intro w; go_simp; all_goals with_reducible rfl)) | (refine take_no (i := 16) (by simp only [List.getElem?_toArray, List.getElem?_cons_succ, List.getElem?_cons_zero]; rfl) (by kernel_rfl) (by kernel_rfl) (by kernel_rfl) (by exact fun _ _ _ h => h) (by rfl) ?_)); try simp only [Act.put, List.setIfInBounds_toArray, List.set_cons_zero, List.set_cons_succ]); ((first | (refine take_yes (i := 17) (v := ?_) (by simp only [List.getElem?_toArray, List.getElem?_cons_succ, List.getElem?_cons_zero]; rfl) (by kernel_rfl) (by kernel_rfl) (by kernel_rfl) (by exact fun _ _ _ h => h) (by rfl) ?_ ?_; rotate_left 1; focus (intro w; go_simp; all_goals with_reducible rfl)) | (refine take_no (i := 17) (by simp only [List.getElem?_toArray, List.getElem?_cons_succ, List.getElem?_cons_zero]; rfl) (by kernel_rfl) (by kernel_rfl) (by kernel_rfl) (by exact fun _ _ _ h => h) (by rfl) ?_)); try simp only [Act.put, List.setIfInBounds_toArray, List.set_cons_zero, List.set_cons_succ]); ((first | (refine take_yes (i := 18) (v := ?_) (by simp only [List.getElem?_toArray, List.getElem?_cons_succ, List.getElem?_cons_zero]; rfl) (by kernel_rfl) (by kernel_rfl) (by kernel_rfl) (by exact fun _ _ _ h => h) (by rfl) ?_ ?_; rotate_left 1; focus (intro w; go_simp; all_goals with_reducible rfl)) | (refine take_no (i := 18) (by simp only [List.getElem?_toArray, List.getElem?_cons_succ, List.getElem?_cons_zero]; rfl) (by kernel_rfl) (by kernel_rfl) (by kernel_rfl) (by exact fun _ _ _ h => h) (by rfl) ?_)); try simp only [Act.put, List.setIfInBounds_toArray, List.set_cons_zero, List.set_cons_succ]); ((first | (refine take_yes (i := 19) (v := ?_) (by simp only [List.getElem?_toArray, List.getElem?_cons_succ, List.getElem?_cons_zero]; rfl) (by kernel_rfl) (by kernel_rfl) (by kernel_rfl) (by exact fun _ _ _ h => h) (by rfl) ?_ ?_; rotate_left 1; focus (intro w; go_simp; all_goals with_reducible rfl)) | (refine take_no (i := 19) (by simp only [List.getElem?_toArray, List.getElem?_cons_succ, List.getElem?_cons_zero]; rfl) (by kernel_rfl) (by kernel_rfl) (by kernel_rfl) (by exact fun _ _ _ h => h) (by rfl) ?_)); try simp only [Act.put, List.setIfInBounds_toArray, List.set_cons_zero, List.set_cons_succ]); ((first | (refine take_yes (i := 20) (v := ?_) (by simp only [List.getElem?_toArray, List.getElem?_cons_succ, List.getElem?_cons_zero]; rfl) (by kernel_rfl) (by kernel_rfl) (by kernel_rfl) (by exact fun _ _ _ h => h) (by rfl) ?_ ?_; rotate_left 1; focus (intro w; go_simp; all_goals with_reducible rfl)) | (refine take_no (i := 20) (by simp only [List.getElem?_toArray, List.getElem?_cons_succ, List.getElem?_cons_zero]; rfl) (by kernel_rfl) (by kernel_rfl) (by kernel_rfl) (by exact fun _ _ _ h => h) (by rfl) ?_)); try simp only [Act.put, List.setIfInBounds_toArray, List.set_cons_zero, List.set_cons_succ]); ((first | (refine take_yes (i := 21) (v := ?_) (by simp only [List.getElem?_toArray, List.getElem?_cons_succ, List.getElem?_cons_zero]; rfl) (by kernel_rfl) (by kernel_rfl) (by kernel_rfl) (by exact fun _ _ _ h => h) (by rfl) ?_ ?_; rotate_left 1; focus (intro w; go_simp; all_goals with_reducible rfl)) | (refine take_no (i := 21) (by simp only [List.getElem?_toArray, List.getElem?_cons_succ, List.getElem?_cons_zero]; rfl) (by kernel_rfl) (by kernel_rfl) (by kernel_rfl) (by exact fun _ _ _ h => h) (by rfl) ?_)); try simp only [Act.put, List.setIfInBounds_toArray, List.set_cons_zero, List.set_cons_succ]); ((first | (refine take_yes (i := 22) (v := ?_) (by simp only [List.getElem?_toArray, List.getElem?_cons_succ, List.getElem?_cons_zero]; rfl) (by kernel_rfl) (by kernel_rfl) (by kernel_rfl) (by exact fun _ _ _ h => h) (by rfl) ?_ ?_; rotate_left 1; focus (intro w; go_simp; all_goals with_reducible rfl)) | (refine take_no (i := 22) (by simp only [List.getElem?_toArray, List.getElem?_cons_succ, List.getElem?_cons_zero]; rfl) (by kernel_rfl) (by kernel_rfl) (by kernel_rfl) (by exact fun _ _ _ h => h) (by rfl) ?_)); try simp only [Act.put, List.setIfInBounds_toArray, List.set_cons_zero, List.set_cons_succ]); ((first | (refine take_yes (i := 23) (v := ?_) (by simp only [List.getElem?_toArray, List.getElem?_cons_succ, List.getElem?_cons_zero]; rfl) (by kernel_rfl) (by kernel_rfl) (by kernel_rfl) (by exact fun _ _ _ h => h) (by rfl) ?_ ?_; rotate_left 1; focus (intro w; go_simp; all_goals with_reducible rfl)) | (refine take_no (i := 23) (by simp only [List.getElem?_toArray, List.getElem?_cons_succ, List.getElem?_cons_zero]; rfl) (by kernel_rfl) (by kernel_rfl) (by kernel_rfl) (by exact fun _ _ _ h => h) (by rfl) ?_)); try simp only [Act.put, List.setIfInBounds_toArray, List.set_cons_zero, List.set_cons_succ]); ((first | (refine take_yes (i := 24) (v := ?_) (by simp only [List.getElem?_toArray, List.getElem?_cons_succ, List.getElem?_cons_zero]; rfl) (by kernel_rfl) (by kernel_rfl) (by kernel_rfl) (by exact fun _ _ _ h => h) (by rfl) ?_ ?_; rotate_left 1; focus (intro w; go_simp; all_goals with_reducible rfl)) | (refine take_no (i := 24) (by simp only [List.getElem?_toArray, List.getElem?_cons_succ, List.getElem?_cons_zero]; rfl) (by kernel_rfl) (by kernel_rfl) (by kernel_rfl) (by exact fun _ _ _ h => h) (by rfl) ?_)); try simp only [Act.put, List.setIfInBounds_toArray, List.set_cons_zero, List.set_cons_succ]); ((first | (refine take_yes (i := 27) (v := ?_) (by simp only [List.getElem?_toArray, List.getElem?_cons_succ, List.getElem?_cons_zero]; rfl) (by kernel_rfl) (by kernel_rfl) (by kernel_rfl) (by exact fun _ _ _ h => h) (by rfl) ?_ ?_; rotate_left 1; focus (intro w; go_simp; all_goals with_reducible rfl)) | (refine take_no (i := 27) (by simp only [List.getElem?_toArray, List.getElem?_cons_succ, List.getElem?_cons_zero]; rfl) (by kernel_rfl) (by kernel_rfl) (by kernel_rfl) (by exact fun _ _ _ h => h) (by rfl) ?_)); try simp only [Act.put, List.setIfInBounds_toArray, List.set_cons_zero, List.set_cons_succ]); ((first | (refine take_yes (i := 28) (v := ?_) (by simp only [List.getElem?_toArray, List.getElem?_cons_succ, List.getElem?_cons_zero]; rfl) (by kernel_rfl) (by kernel_rfl) (by kernel_rfl) (by exact fun _ _ _ h => h) (by rfl) ?_ ?_; rotate_left 1; focus (intro w; go_simp; all_goals with_reducible rfl)) | (refine take_no (i := 28) (by simp only [List.getElem?_toArray, List.getElem?_cons_succ, List.getElem?_cons_zero]; rfl) (by kernel_rfl) (by kernel_rfl) (by kernel_rfl) (by exact fun _ _ _ h => h) (by rfl) ?_)); try simp only [Act.put, List.setIfInBounds_toArray, List.set_cons_zero, List.set_cons_succ]); ((first | (refine take_yes (i := 29) (v := ?_) (by simp only [List.getElem?_toArray, List.getElem?_cons_succ, List.getElem?_cons_zero]; rfl) (by kernel_rfl) (by kernel_rfl) (by kernel_rfl) (by exact fun _ _ _ h => h) (by rfl) ?_ ?_; rotate_left 1; focus (intro w; go_simp; all_goals with_reducible rfl)) | (refine take_no (i := 29) (by simp only [List.getElem?_toArray, List.getElem?_cons_succ, List.getElem?_cons_zero]; rfl) (by kernel_rfl) (by kernel_rfl) (by kernel_rfl) (by exact fun _ _ _ h => h) (by rfl) ?_)); try simp only [Act.put, List.setIfInBounds_toArray, List.set_cons_zero, List.set_cons_succ]); ((first | (refine take_yes (i := 25) (v := ?_) (by simp only [List.getElem?_toArray, List.getElem?_cons_succ, List.getElem?_cons_zero]; rfl) (by kernel_rfl) (by kernel_rfl) (by kernel_rfl) (by exact fun _ _ _ h => h) (by rfl) ?_ ?_; rotate_left 1; focus (intro w; go_simp; all_goals with_reducible rfl)) | (refine take_no (i := 25) (by simp only [List.getElem?_toArray, List.getElem?_cons_succ, List.getElem?_cons_zero]; rfl) (by kernel_rfl) (by kernel_rfl) (by kernel_rfl) (by exact fun _ _ _ h => h) (by rfl) ?_)); try simp only [Act.put, List.setIfInBounds_toArray, List.set_cons_zero, List.set_cons_succ]); ((first | (refine take_yes (i := 26) (v := ?_) (by simp only [List.getElem?_toArray, List.getElem?_cons_succ, List.getElem?_cons_zero]; rfl) (by kernel_rfl) (by kernel_rfl) (by kernel_rfl) (by exact fun _ _ _ h => h) (by rfl) ?_ ?_; rotate_left 1; focus (intro w; go_simp; all_goals with_reducible rfl)) | (refine take_no (i := 26) (by simp only [List.getElem?_toArray, List.getElem?_cons_succ, List.getElem?_cons_zero]; rfl) (by kernel_rfl) (by kernel_rfl) (by kernel_rfl) (by exact fun _ _ _ h => h) (by rfl) ?_)); try simp only [Act.put, List.setIfInBounds_toArray, List.set_cons_zero, List.set_cons_succ]); ((first | (refine take_yes (i := 30) (v := ?_) (by simp only [List.getElem?_toArray, List.getElem?_cons_succ, List.getElem?_cons_zero]; rfl) (by kernel_rfl) (by kernel_rfl) (by kernel_rfl) (by exact fun _ _ _ h => h) (by rfl) ?_ ?_; rotate_left 1; focus (intro w; go_simp; all_goals with_reducible rfl)) | (refine take_no (i := 30) (by simp only [List.getElem?_toArray, List.getElem?_cons_succ, List.getElem?_cons_zero]; rfl) (by kernel_rfl) (by kernel_rfl) (by kernel_rfl) (by exact fun _ _ _ h => h) (by rfl) ?_)); try simp only [Act.put, List.setIfInBounds_toArray, List.set_cons_zero, List.set_cons_succ]); ((first | (refine take_yes (i := 31) (v := ?_) (by simp only [List.getElem?_toArray, List.getElem?_cons_succ, List.getElem?_cons_zero]; rfl) (by kernel_rfl) (by kernel_rfl) (by kernel_rfl) (by exact fun _ _ _ h => h) (by rfl) ?_ ?_; rotate_left 1; focus (intro w; go_simp; all_goals with_reducible rfl)) | (refine take_no (i := 31) (by simp only [List.getElem?_toArray, List.getElem?_cons_succ, List.getElem?_cons_zero]; rfl) (by kernel_rfl) (by kernel_rfl) (by kernel_rfl) (by exact fun _ _ _ h => h) (by rfl) ?_)); try simp only [Act.put, List.setIfInBounds_toArray, List.set_cons_zero, List.set_cons_succ]); ((first | (refine take_yes (i := 32) (v := ?_) (by simp only [List.getElem?_toArray, List.getElem?_cons_succ, List.getElem?_cons_zero]; rfl) (by kernel_rfl) (by kernel_rfl) (by kernel_rfl) (by exact fun _ _ _ h => h) (by rfl) ?_ ?_; rotate_left 1; focus (intro w; go_simp; all_goals with_reducible rfl)) | (refine take_no (i := 32) (by simp only [List.getElem?_toArray, List.getElem?_cons_succ, List.getElem?_cons_zero]; rfl) (by kernel_rfl) (by kernel_rfl) (by kernel_rfl) (by exact fun _ _ _ h => h) (by rfl) ?_)); try simp only [Act.put, List.setIfInBounds_toArray, List.set_cons_zero, List.set_cons_succ]); ((first | (refine take_yes (i := 33) (v := ?_) (by simp only [List.getElem?_toArray, List.getElem?_cons_succ, List.getElem?_cons_zero]; rfl) (by kernel_rfl) (by kernel_rfl) (by kernel_rfl) (by exact fun _ _ _ h => h) (by rfl) ?_ ?_; rotate_left 1; focus (intro w; go_simp; all_goals with_reducible rfl)) | (refine take_no (i := 33) (by simp only [List.getElem?_toArray, List.getElem?_cons_succ, List.getElem?_cons_zero]; rfl) (by kernel_rfl) (by kernel_rfl) (by kernel_rfl) (by exact fun _ _ _ h => h) (by rfl) ?_)); try simp only [Act.put, List.setIfInBounds_toArray, List.set_cons_zero, List.set_cons_succ])
          refine wpAny_done (by kernel_rfl) ?_ _
          have hUw := hU3.trans hU5
          have hVx := hV3.upd hU5
          clear hV3 hvb3)
    all_goals
      try clear hu7
      try clear hUx
      try clear hU5 hU4 hV4 hu4 hu5
      clear hvz3
      have hzH := Held.mk hz
      clear hz hb
      go_wp2_with fail
      go_loopw [5, 12, 13, 14, 15] (fun x i _ _ _ wr => ∃ j : Nat, i = .int .i64 j ∧ j ≤ zs.length ∧ Vec wr x (putAll (zs.drop j)).length (bys (putAll (zs.drop j))) ∧ Upd [] w wr) (fun _ i _ _ _ _ => zs.length - (intOf i).toNat)
      case atStart => exact ⟨0, rfl, by omega, hVx, hUw⟩
      case round =>
        obtain ⟨j, rfl, hj, hX, hU⟩ := hrel
        by_cases hlt : j < zs.length
        · obtain ⟨lb, lo, hae, hlb, hlc⟩ : ∃ lb lo, a = some ⟨lb, lo, none⟩ ∧ lb < w.heap.size ∧ ∀ j u, (u64s zs)[j]? = some u → w.cell? ⟨lb, lo + j, none⟩ = some u := by
            obtain ⟨a', c', h1, _, _, h4⟩ := hvz
            simp only [Value.slice.injEq] at h1
            rcases h4 with h4 | ⟨b, o, h5, h6, h7⟩
            · have := congrArg List.length h4; simp only [u64s, List.length_map, List.length_nil] at this; omega
            · exact ⟨b, o, h1.1.trans h5, h6, h7⟩
          subst hae
          have hjc : (j : Int) < 20 ∧ (j : Int) < n := by have := hzH.out; omega
          obtain ⟨hjc1, hjc2⟩ := hjc
          have hdr : zs.drop j = zs[j] :: zs.drop (j + 1) := List.drop_eq_getElem_cons hlt
          have hXY : putAll (zs.drop j) = putOne zs[j] ++ putAll (zs.drop (j + 1)) := by rw [hdr]; rfl
          have hz1 : zs[j] < 18446744073709551616 := (hz64 _ (List.getElem_mem hlt)).lt
          have hg := getN_put zs[j] (putAll (zs.drop (j + 1))) hz1
          have hp := putOne_pos zs[j]
          have hlz := hlc j (.int .u64 (zs[j] : Nat)) (by simp [u64s, hlt])
          rw [hXY] at hX
          clear hXY hdr
          have hbA : ∀ x ∈ putOne zs[j] ++ putAll (zs.drop (j + 1)), x < 256 := fun x hx => by
            rcases List.mem_append.1 hx with h | h
            · exact putOne_bytes _ x h
            · exact putAll_bytes _ x h
          have hYd : Held (putAll (zs.drop (j + 1)) = putAll (zs.drop (j + 1))) := ⟨rfl⟩
          generalize hY : putAll (zs.drop (j + 1)) = Y at hX hg hbA hYd
          generalize zs[j] = z at *
          generalize putOne z = A at *
          have hYH : Held (putAll (zs.drop (j + 1)) = Y) := ⟨hY⟩
          clear hY hYd
          have hAX : Held (A ++ Y = A ++ Y) := ⟨rfl⟩
          have hAl : A.length ≤ (A ++ Y).length := by simp
          generalize hXX : A ++ Y = X at hX hg hbA hAX hAl
          have hXY : Held (A ++ Y = X) := ⟨hXX⟩
          clear hXX hAX
          have hX0 := hX
          obtain ⟨xa, xc, rfl, hxc, hxm, hxcell⟩ := hX
          have hkz : wr.cell? ⟨lb, lo + j, none⟩ = some (.int .u64 (z : Nat)) := (hU.cell hlb (by simp)).trans hlz
          go_wp2_with fail
          refine (tape_get _ X _ hbA hX0).mono ?_
          rintro e w8 ⟨rfl, hu8⟩
          rw [hg]
          have hkz8 := (hu8.cell (a := ⟨lb, lo + j, none⟩) (Nat.lt_of_lt_of_le hlb hU.size) (by simp)).trans hkz
          have hU8 := hU.trans hu8
          obtain ⟨xb, xo, rfl, hxb, hxv⟩ : ∃ b o, xa = some ⟨b, o, none⟩ ∧ b < wr.heap.size ∧ ∀ j u, (bys X)[j]? = some u → wr.cell? ⟨b, o + j, none⟩ = some u := by
            rcases hxcell with h | h
            · have := congrArg List.length h; rw [bys_len] at this; simp only [List.length_nil] at this; omega
            · exact h
          have hAY : (A.length : Int) ≤ X.length := by omega
          clear hxcell hlz hg hbA hkz
          go_wp2_with fail
          all_goals
            refine ⟨⟨j + 1, rfl, by omega, ?_, hU8⟩, ?_⟩
            · rw [hYH.out]
              first
                | exact vec_sufi hXY.out hxc hxm (Nat.lt_of_lt_of_le hxb hu8.size) (fun i u hi => (hu8.cell hxb (by simp)).trans (hxv i u hi))
                | exact vec_suf hXY.out hxc hxm (Nat.lt_of_lt_of_le hxb hu8.size) (fun i u hi => (hu8.cell hxb (by simp)).trans (hxv i u hi))
            · simp only [intOf]; omega
        · have hnil : zs.drop j = [] := List.drop_eq_nil_of_le (by omega)
          rw [hnil] at hX
          obtain ⟨xa, xc, rfl, hxc, hxm, hxcell⟩ := hX
          clear hxcell hnil
          have hge20 : ¬ (j : Int) < 20 ∨ ¬ (j : Int) < n := by have := hzH.out; omega
          first
            | have hj1 : ¬ (j : Int) < 20 := by have := hzH.out; omega
            | have hj1 : ¬ (j : Int) < n := by have := hzH.out; omega
          clear hge20
          go_wp2_with (go_at_call 31; refine (l34_known _).mono ?_; rintro e w9 ⟨rfl, hu9⟩)
          go_ret
          exact ⟨rfl, hU.trans hu9⟩
end Go.Proofs.Ytdmdnijgjgjmkaa
