/- tape.Bytes: a tape. -/
import Derived.Test.YtdmdnijgjgjmkaaProg
import Derived.Test.YtdmdnijgjgjmkaaOp25c
import Derived.Test.YtdmdnijgjgjmkaaScript26
import Derived.Laws.AppendOwnNone
import Derived.Deep.RegionWith
set_option maxRecDepth 20000
namespace Go.Proofs.Ytdmdnijgjgjmkaa
open Go.RowKit

/-- The bytes that are told so far lie in the variable bo, in a row of the call's own. -/
structure Out (a w : World) (bo : Nat) (xs : List Nat) : Prop where
  blk : ∃ v, Blk w bo 53 [v] ∧ w.ownsRow a.heap.size 5 1 v xs.length (bys xs) ∧ v.ownBlock ≠ some bo
  base : a.heap.size ≤ bo

theorem own_slice {w : World} {base : Nat} {e : TypeId} {size : Nat} {v : Value} {n : Nat} {xs : List Value} (h : w.ownsRow base e size v n xs) : ∃ x m c, v = .slice x m c := by
  rcases h.2 with ⟨h, _⟩ | ⟨g, cp, cur, h, _⟩ <;> exact ⟨_, _, _, h⟩

theorem own_ne {w : World} {base : Nat} {e T : TypeId} {size : Nat} {v : Value} {n b : Nat} {xs cs : List Value} (h : w.ownsRow base e size v n xs) (hB : Blk w b T cs) (hT : T ≠ e) : v.ownBlock ≠ some b := by
  rcases h.2 with ⟨rfl, _⟩ | ⟨g, cp, cur, rfl, _, hh, _⟩
  · simp [Value.ownBlock]
  · intro e1
    simp only [Value.ownBlock, Option.some.injEq] at e1
    subst e1
    unfold Blk at hB
    rw [hB] at hh
    simp only [Option.some.injEq, Obj.cells.injEq] at hh
    exact hT hh.2.1

theorem own_lt {w : World} {base : Nat} {e : TypeId} {size : Nat} {v : Value} {n : Nat} {xs : List Value} (h : w.ownsRow base e size v n xs) : ∀ k, v.ownBlock = some k → k < w.heap.size := by
  intro k hk
  rcases h.2 with ⟨rfl, _⟩ | ⟨g, cp, cur, rfl, _, hh, _⟩
  · simp [Value.ownBlock] at hk
  · simp only [Value.ownBlock, Option.some.injEq] at hk; subst hk; exact lt_of_block hh
theorem Out.upd {a w w' : World} {bo : Nat} {xs : List Nat} (h : Out a w bo xs) {S : List Nat} (u : Upd S w w') (hS : ∀ x ∈ S, w.heap.size ≤ x) : Out a w' bo xs := by
  obtain ⟨⟨v, hB, hown, hne⟩, hbase⟩ := h
  refine ⟨⟨v, hB.upd u (fun hb => ?_), own_upd hown u (fun k hk hb => ?_), hne⟩, hbase⟩
  · have := hS _ hb; have := hB.lt; omega
  · have := hS _ hb; have := own_lt hown k hk; omega
theorem Out.lt {a w : World} {bo : Nat} {xs : List Nat} (h : Out a w bo xs) : bo < w.heap.size := by
  obtain ⟨⟨v, hB, _⟩, _⟩ := h; exact hB.lt
/-- What is no row of bytes and not the variable bo stays. -/
def Keep (bo : Nat) (w w' : World) : Prop := ∀ b T cs, T ≠ 5 → b ≠ bo → Blk w b T cs → Blk w' b T cs

theorem bytes_put (a : World) (bo : Nat) (xs : List Nat) (v : Value) (zs : List Nat) (w : World) (hv : Vec w v zs.length (u64s zs)) (hz : ∀ n ∈ zs, W64 n) (hlen : Held (xs.length + 10 * zs.length ≤ 1000000000000)) (ho : Out a w bo xs) (S : List Nat) (hU : Upd S a w) :
    Calls Try.prog 46 #[v, .pointer (some ⟨bo, 0, none⟩)] w fun e w' => e = .returned (.tuple #[]) ∧ Out a w' bo (xs ++ putAll zs) ∧ Upd S a w' ∧ Keep bo w w' := by
  obtain ⟨⟨vo, hB, hown, hne⟩, hbase⟩ := ho
  have c0 := hB.get 0 rfl
  go_enter Try.func46, Try.ntmps46
  go_wp2_with fail
  have hUd : Upd [] w w.drew := (Upd.refl _ _).drew
  have hB' : Blk w.drew bo 53 [vo] := hB.drew
  have c0' : w.drew.cell? ⟨bo, 0, none⟩ = some vo := c0
  refine wp_region_any (by kernel_rfl) ?_
  change wpAny _ _ _ _ _ _ _ (World.drew _)
  have hlB : Held (xs.length + 10 * zs.length ≤ 1000000000000) := hlen
  have hpl : Held ((putAll zs).length ≤ 10 * zs.length) := ⟨putAll_len zs fun n hn => (hz n hn).lt⟩
  have hvd : Vec w.drew v zs.length (u64s zs) := hv.upd hUd
  have hownd : w.drew.ownsRow a.heap.size 5 1 vo xs.length (bys xs) := own_upd0 hown hUd
  have hUa : Upd S a w.drew := hU.drew
  have hK0 : ∀ b T cs, Blk w b T cs → Blk w.drew b T cs := fun _ _ _ h => h.drew
  clear hU hown hv hUd hB c0
  generalize w.drew = W at *
  refine wpAny_take (i := 1) (v := v) rfl (by kernel_rfl) (by kernel_rfl) (by kernel_rfl) (fun _ _ _ h => h) (Or.inl ⟨by rfl, fun w => by go_simp⟩) ?_
  refine any2 0 2 (by kernel_rfl) rfl rfl rfl rfl (fun K hK => ?_) (fun K hK => ?_)
  · go_wp2_with fail
    refine any1 2 (by kernel_rfl) rfl rfl (fun K hK => ?_)
    go_wp2_with (go_at_call 26; refine (tape_put _ zs _ hvd hz ⟨by have := hlen.out; omega⟩).mono ?_; rintro e w1 ⟨v1, rfl, hown1, hu1⟩)
    refine any1 3 (by kernel_rfl) rfl rfl (fun K hK => ?_)
    have hownw : w1.ownsRow a.heap.size 5 1 vo xs.length (bys xs) := own_upd0 hownd hu1
    have hUw : Upd S a w1 := hUa.and hu1 (by simp)
    have hBw := hB'.upd hu1 (by simp)
    have hcells1 : ∀ (g cp : Nat), v1 = .slice (some ⟨g, 0, none⟩) (putAll zs).length cp → ∀ j u, (bys (putAll zs))[j]? = some u → w1.cell? ⟨g, 0 + j, none⟩ = some u := by
      intro g cp hv1 j u hj
      obtain ⟨a1, cap1, h1, _, _, h4⟩ := vec_of_own hown1
      rw [hv1] at h1
      obtain ⟨rfl, _, _⟩ := Value.slice.inj h1
      rcases h4 with h4 | ⟨b, o, h5, _, h6⟩
      · rw [h4] at hj; simp at hj
      · cases h5; exact h6 j u hj
    have hl := hpl.out
    have hlo := hlB.out
    rcases hown1.2 with ⟨hv1, h0⟩ | ⟨g, cp, cur, hv1, hg, hh, hn, hm, hs, ht⟩
    · subst hv1
      have hz0 : putAll zs = [] := List.eq_nil_of_length_eq_zero h0
      refine wp_app_none (.tmp 3) (.tmp 5) 53 rfl a.heap.size 5 info_u8 Try.underlying53 hownw rfl rfl ?_
      refine hK _ _ ?_
      refine any1 4 (by kernel_rfl) rfl rfl (fun K hK => ?_)
      have c2 := hBw.get 0 rfl
      have f2 := hBw.free 0
      clear hl hlo
      obtain ⟨ox, om, oc, rfl⟩ := own_slice hownw
      go_wp2_with fail
      refine wpAny_done (by kernel_rfl) ?_ _
      go_wp2_with fail
      go_end0
      have hUs : Upd [bo] w1 (w1.setCell ⟨bo, 0, none⟩ (.slice ox om oc)) := (Upd.refl _ _).setCell _ _ (Or.inl (by simp))
      refine ⟨rfl, ⟨⟨.slice ox om oc, hBw.set (i := 0) _, ?_, hne⟩, hbase⟩, hUw.and hUs (fun x hx => Or.inr (by simp at hx; omega)), fun b T cs hT hb hX => ((hK0 b T cs hX).upd hu1 (by simp)).upd hUs (by simpa using hb)⟩
      rw [hz0, List.append_nil]
      exact own_upd hownw hUs (fun k hk => by simp only [List.mem_singleton]; intro e; exact hne (by rw [hk, e]))
    · subst hv1
      refine wp_app (.tmp 3) (.tmp 5) 53 rfl a.heap.size 5 info_u8 Try.underlying53 rfl (by decide) hownw rfl (news := bys (putAll zs)) rfl (by simp [bys]) ?_ (bys_one _) ?_ ?_ hUw.size ?_
      · intro j u hj
        have := hcells1 g cp rfl j u hj
        simpa [Addr.add_lit] using this
      · have := maxLen_eq; omega
      · omega
      intro v2 w2 ho2 hg2
      refine hK _ _ ?_
      refine any1 4 (by kernel_rfl) rfl rfl (fun K hK => ?_)
      have hB2 := hBw.grown hg2 hne
      have c2 := hB2.get 0 rfl
      have f2 := hB2.free 0
      clear hl hlo
      have hU2 : Upd S a w2 := hUw.push hownw hg2
      have hne2 := own_ne ho2 hB2 (by decide)
      obtain ⟨ox, om, oc, rfl⟩ := own_slice ho2
      obtain ⟨oy, on, od, rfl⟩ := own_slice hownw
      go_wp2_with fail
      refine wpAny_done (by kernel_rfl) ?_ _
      go_wp2_with fail
      go_end0
      have hUs : Upd [bo] w2 (w2.setCell ⟨bo, 0, none⟩ (.slice ox om oc)) := (Upd.refl _ _).setCell _ _ (Or.inl (by simp))
      refine ⟨rfl, ⟨⟨.slice ox om oc, hB2.set (i := 0) _, ?_, hne2⟩, hbase⟩, hU2.and hUs (fun x hx => Or.inr (by simp at hx; omega)), fun b T cs hT hb hX => (((hK0 b T cs hX).upd hu1 (by simp)).grown hg2 (own_ne hownw ((hK0 b T cs hX).upd hu1 (by simp)) hT)).upd hUs (by simpa using hb)⟩
      rw [List.length_append, bys_append]
      exact own_upd ho2 hUs (fun k hk => by simp only [List.mem_singleton]; intro e; exact hne2 (by rw [hk, e]))
  · go_wp2_with (go_at_call 26; refine (tape_put _ zs _ hvd hz ⟨by have := hlen.out; omega⟩).mono ?_; rintro e w1 ⟨v1, rfl, hown1, hu1⟩)
    have c1 : w1.cell? ⟨bo, 0, none⟩ = some vo := (hB'.upd hu1 (by simp)).get 0 rfl
    refine any1 0 (by kernel_rfl) rfl rfl (fun K hK => ?_)
    go_wp2_with fail
    refine any1 3 (by kernel_rfl) rfl rfl (fun K hK => ?_)
    have hownw : w1.ownsRow a.heap.size 5 1 vo xs.length (bys xs) := own_upd0 hownd hu1
    have hUw : Upd S a w1 := hUa.and hu1 (by simp)
    have hBw := hB'.upd hu1 (by simp)
    have hcells1 : ∀ (g cp : Nat), v1 = .slice (some ⟨g, 0, none⟩) (putAll zs).length cp → ∀ j u, (bys (putAll zs))[j]? = some u → w1.cell? ⟨g, 0 + j, none⟩ = some u := by
      intro g cp hv1 j u hj
      obtain ⟨a1, cap1, h1, _, _, h4⟩ := vec_of_own hown1
      rw [hv1] at h1
      obtain ⟨rfl, _, _⟩ := Value.slice.inj h1
      rcases h4 with h4 | ⟨b, o, h5, _, h6⟩
      · rw [h4] at hj; simp at hj
      · cases h5; exact h6 j u hj
    have hl := hpl.out
    have hlo := hlB.out
    rcases hown1.2 with ⟨hv1, h0⟩ | ⟨g, cp, cur, hv1, hg, hh, hn, hm, hs, ht⟩
    · subst hv1
      have hz0 : putAll zs = [] := List.eq_nil_of_length_eq_zero h0
      refine wp_app_none (.tmp 3) (.tmp 5) 53 rfl a.heap.size 5 info_u8 Try.underlying53 hownw rfl rfl ?_
      refine hK _ _ ?_
      refine any1 4 (by kernel_rfl) rfl rfl (fun K hK => ?_)
      have c2 := hBw.get 0 rfl
      have f2 := hBw.free 0
      clear hl hlo
      obtain ⟨ox, om, oc, rfl⟩ := own_slice hownw
      go_wp2_with fail
      refine wpAny_done (by kernel_rfl) ?_ _
      go_wp2_with fail
      go_end0
      have hUs : Upd [bo] w1 (w1.setCell ⟨bo, 0, none⟩ (.slice ox om oc)) := (Upd.refl _ _).setCell _ _ (Or.inl (by simp))
      refine ⟨rfl, ⟨⟨.slice ox om oc, hBw.set (i := 0) _, ?_, hne⟩, hbase⟩, hUw.and hUs (fun x hx => Or.inr (by simp at hx; omega)), fun b T cs hT hb hX => ((hK0 b T cs hX).upd hu1 (by simp)).upd hUs (by simpa using hb)⟩
      rw [hz0, List.append_nil]
      exact own_upd hownw hUs (fun k hk => by simp only [List.mem_singleton]; intro e; exact hne (by rw [hk, e]))
    · subst hv1
      refine wp_app (.tmp 3) (.tmp 5) 53 rfl a.heap.size 5 info_u8 Try.underlying53 rfl (by decide) hownw rfl (news := bys (putAll zs)) rfl (by simp [bys]) ?_ (bys_one _) ?_ ?_ hUw.size ?_
      · intro j u hj
        have := hcells1 g cp rfl j u hj
        simpa [Addr.add_lit] using this
      · have := maxLen_eq; omega
      · omega
      intro v2 w2 ho2 hg2
      refine hK _ _ ?_
      refine any1 4 (by kernel_rfl) rfl rfl (fun K hK => ?_)
      have hB2 := hBw.grown hg2 hne
      have c2 := hB2.get 0 rfl
      have f2 := hB2.free 0
      clear hl hlo
      have hU2 : Upd S a w2 := hUw.push hownw hg2
      have hne2 := own_ne ho2 hB2 (by decide)
      obtain ⟨ox, om, oc, rfl⟩ := own_slice ho2
      obtain ⟨oy, on, od, rfl⟩ := own_slice hownw
      go_wp2_with fail
      refine wpAny_done (by kernel_rfl) ?_ _
      go_wp2_with fail
      go_end0
      have hUs : Upd [bo] w2 (w2.setCell ⟨bo, 0, none⟩ (.slice ox om oc)) := (Upd.refl _ _).setCell _ _ (Or.inl (by simp))
      refine ⟨rfl, ⟨⟨.slice ox om oc, hB2.set (i := 0) _, ?_, hne2⟩, hbase⟩, hU2.and hUs (fun x hx => Or.inr (by simp at hx; omega)), fun b T cs hT hb hX => (((hK0 b T cs hX).upd hu1 (by simp)).grown hg2 (own_ne hownw ((hK0 b T cs hX).upd hu1 (by simp)) hT)).upd hUs (by simpa using hb)⟩
      rw [List.length_append, bys_append]
      exact own_upd ho2 hUs (fun k hk => by simp only [List.mem_singleton]; intro e; exact hne2 (by rw [hk, e]))

end Go.Proofs.Ytdmdnijgjgjmkaa
