/- bus.Regions: the walk. -/
import Derived.Test.YtbkegflipglioaaGreatProg
import Derived.Test.YtbkegflipglioaaGreatRegL
set_option maxRecDepth 20000
namespace Go.Proofs.YtbkegflipglioaaGreat
open Go.RowKit Go.Sort Go.Lib

theorem at_appl {P : Program} {ops : Array Oper} {Q : Exit → Act → World → Prop} {rest : List Oper} {a : Act} {w : World} {dst : Option Tmp} {ty : TypeId} {pos : String} {after : Array Edge} {s x : Operand} {ts : Array TypeId}
    (h : wpList P ops Q (⟨dst, .call { callee := .builtin .append, args := #[s, x], argTypes := ts }, ty, pos, after, none⟩ :: rest) a w) : wpList P ops Q (⟨dst, .call { callee := .builtin .append, args := #[s, x], argTypes := ts }, ty, pos, after, none⟩ :: rest) a w := h
theorem region_info : (Tryz.prog.info? 212).map (fun i => (i.zero, i.size, i.bytes)) = some (some (.agg #[.int .u32 0, .int .u32 0]), 2, 8) := by kernel_rfl
set_option maxHeartbeats 2000000 in
theorem regions_walk (bb mp : Nat) (es : Array MapEntry) (clock : Nat) (w : World) (hb : w.cell? ⟨bb, 0, none⟩ = some (.map (some mp))) (hm : w.heap[mp]? = some (.map es clock)) (hold : ∀ x ∈ es.toList, x.born < clock) (hnd : (es.toList.map (·.born)).Nodup)
    (hkey : ∀ x ∈ es.toList, ∃ p, x.key = encR p) (h12 : es.size ≤ 12) :
    Calls Tryz.prog 140 #[.pointer (some ⟨bb, 0, none⟩)] w fun e w' => RowKit.Below w.heap.size w w' ∧ ∃ (l : List (Int × Int)) (v : Value), e = .returned v ∧ (l.map encR).Perm (es.toList.map (·.key)) ∧ Asc l ∧ w'.ownsRow w.heap.size 212 2 v l.length (l.flatMap encC) ∧ (l = [] → v = .slice none 0 0) := by
  obtain ⟨i0, hi, hz⟩ := Option.map_eq_some_iff.1 region_info
  simp only [Prod.mk.injEq] at hz
  obtain ⟨hz0, hz1, hz2⟩ := hz
  have hbl : bb < w.heap.size := block_lt_of_cell hb
  have hml : mp < w.heap.size := (Array.getElem?_eq_some_iff.1 hm).1
  have hrg := run_range_map (P := Tryz.prog) w 225 212 207 mp es clock Tryz.underlying225 hm
  go_enter Tryz.func140, Tryz.ntmps140
  go_wp2_with fail
  go_loopw [3] (fun v wr => ∃ (seen : Array Nat) (l : List (Int × Int)), wr.heap[w.heap.size]? = some (.mapIter (some mp) clock seen clock) ∧ (l.map encR ++ (leftOf es seen).toList.map (·.key)).Perm (es.toList.map (·.key)) ∧ wr.ownsRow (w.heap.size + 1) 212 2 v l.length (l.flatMap encC) ∧ RowKit.Below w.heap.size w wr ∧ w.heap.size + 1 ≤ wr.heap.size ∧ (l = [] → v = .slice none 0 0))
    (fun _ wr => (leftOf es (wr.iterSeen w.heap.size)).size)
  case atStart =>
    refine ⟨#[], [], heap_alloc_new _ _, ?_, ⟨rfl, Or.inl ⟨rfl, rfl⟩⟩, (RowKit.Below.refl _ _).alloc (Nat.le_refl _) _, by simp, fun _ => rfl⟩
    have : leftOf es #[] = es := by unfold leftOf; apply Array.filter_eq_self.2; simp
    rw [this]; exact List.Perm.refl _
  case round =>
    obtain ⟨seen, l, hr, hp, hrow, hU, hsz, hnl⟩ := hrel
    have hbm : wr.heap[mp]? = some (.map es clock) := (hU.block mp hml).trans hm
    have hlen : l.length ≤ 12 := by
      have := hp.length_eq
      simp only [List.length_append, List.length_map, Array.length_toList] at this
      omega
    rcases run_next_at (P := Tryz.prog) wr 0 w.heap.size mp clock clock seen es clock hr hbm hold (Nat.le_refl _) with ⟨h0, hnx⟩ | ⟨e, he, w1, hw1, hnx⟩
    · have hl0 : leftOf es seen = #[] := Array.eq_empty_of_size_eq_zero h0
      rw [hl0] at hp
      simp only [List.map_nil, List.append_nil] at hp
      rcases hrow with ⟨hl, ⟨rfl, hn⟩ | ⟨g, cap, cur, rfl, hg1, hg2, hg3, hg4, hg5, hg6⟩⟩
      · have hnil : l = [] := List.eq_nil_of_length_eq_zero hn
        subst hnil
        go_wp2_with (go_at_call 163; refine (regions_sort_nil _ _).mono ?_; rintro e w' ⟨rfl, rfl⟩)
        go_ret
        exact ⟨hU, [], _, rfl, hp, List.Pairwise.nil, ⟨rfl, Or.inl ⟨rfl, rfl⟩⟩, fun _ => rfl⟩
      · have hgw : g < wr.heap.size := (Array.getElem?_eq_some_iff.1 hg2).1
        have hs := regions_sort g cap l wr cur w.heap.size (by omega) (by omega) hg2 hg3 hg4 hg5 hg6 hlen
        go_wp2_with (go_at_call 163; refine hs.mono ?_; rintro e w' ⟨rfl, hbw, m, hpm, has, hom⟩)
        go_ret
        have hml' : m.length = l.length := hpm.length_eq
        exact ⟨hU.trans hbw, m, _, rfl, (hpm.map encR).trans hp, has, by rw [hml']; exact hom, fun hm0 => by subst hm0; exact absurd (hnl (List.eq_nil_of_length_eq_zero (by simpa using hml'.symm))) (by simp)⟩
    · obtain ⟨⟨p1, p2⟩, hk⟩ := hkey e (mem_left he).1
      have hpe := left_perm es seen e hnd he
      obtain ⟨w2, hw2⟩ : ∃ w2, ChangeMaps.setBlock w1 w.heap.size (.mapIter (some mp) clock (seen.push e.born) clock) = w2 := ⟨_, rfl⟩
      have hrl : w.heap.size < wr.heap.size := by omega
      have hh1 : w1.heap = wr.heap := by rcases hw1 with rfl | rfl <;> rfl
      have hr2 : w2.heap[w.heap.size]? = some (.mapIter (some mp) clock (seen.push e.born) clock) := by rw [← hw2]; simp [ChangeMaps.setBlock, hh1, hrl]
      have ho2 : ∀ k, k ≠ w.heap.size → w2.heap[k]? = wr.heap[k]? := by
        intro k hk
        rw [← hw2]
        simp [ChangeMaps.setBlock, hh1, Ne.symm hk]
      have hz2' : w2.heap.size = wr.heap.size := by rw [← hw2]; simp [ChangeMaps.setBlock, hh1]
      have hU2 : RowKit.Below w.heap.size w w2 := by
        refine hU.trans ⟨?_, ?_, ?_, by omega, fun k hk => ho2 k (by omega)⟩
        · rw [← hw2]; rcases hw1 with rfl | rfl <;> rfl
        · rw [← hw2]; rcases hw1 with rfl | rfl <;> rfl
        · rw [← hw2]; rcases hw1 with rfl | rfl <;> rfl
      have hb2 : w2.heap[mp]? = some (.map es clock) := (ho2 mp (by omega)).trans hbm
      have hrow2 : w2.ownsRow (w.heap.size + 1) 212 2 u3 l.length (l.flatMap encC) := by
        rcases hrow with ⟨hl, h | ⟨g, cap, cur, h1, hg1, hg2, hg3⟩⟩
        · exact ⟨hl, Or.inl h⟩
        · exact ⟨hl, Or.inr ⟨g, cap, cur, h1, hg1, (ho2 g (by omega)).trans hg2, hg3⟩⟩
      have hen := run_entry_at (P := Tryz.prog) w2 w.heap.size mp clock seen es clock e hr2 hb2 (mem_left he).1 hnd
      rw [hw2] at hnx
      replace hk : e.key = .agg #[.int .u32 p1, .int .u32 p2] := hk
      have hke : e.key = encR (p1, p2) := hk
      rw [hk] at hnx hen
      have hmeas := left_shrinks es seen e he
      have hrh : Hid (wr.heap[w.heap.size]? = some (.mapIter (some mp) clock seen clock)) := hr
      have hz2h : Hid (w2.heap.size = wr.heap.size) := hz2'
      have hUh : Hid (RowKit.Below w.heap.size w w2) := hU2
      have hlh : Hid (l.length ≤ 12) := hlen
      have hszh : Hid (w.heap.size + 1 ≤ wr.heap.size) := hsz
      clear hnl hrow hw1 hw2 hbm hh1 ho2 hr hU hz2' hU2 hlen hsz hrl h12
      go_wp2_with (first
        | ((with_reducible refine at_appl ?_); refine wpList_append_own _ rfl _ _ 247 rfl (w.heap.size + 1) 212 i0 _ 2 8 Tryz.underlying247 hi hz0 hz1 hz2 rfl (by decide) u3 l.length (l.flatMap encC) rfl ((hrow2.alloc _).alloc _) ⟨w2.heap.size + 1, 0, none⟩ 1 1 (encC (p1, p2)) rfl rfl ?news ?ones ?h63 ?hby ?hbase ?_
           case news => intro j u hj; (match j, hj with | 0, hj => (simp [encC] at hj; subst hj; simp [Addr.add]) | 1, hj => (simp [encC] at hj; subst hj; simp [Addr.add]) | j + 2, hj => simp [encC] at hj)
           case ones => intro u hu; simp [encC] at hu; rcases hu with rfl | rfl <;> rfl
           case h63 => have := hlh.out; unfold maxLen; omega
           case hby => have := hlh.out; omega
           case hbase => have := hszh.out; have := hz2h.out; simp; omega
           intro v' w' ho' hg' hn'
           skip))
      have hz3 := hz2h.out
      have hsz3 := hszh.out
      have hU3 := hUh.out
      have hgb : ∀ k, u3.ownBlock = some k → w.heap.size + 1 ≤ k := by
        intro k hk
        rcases hrow2 with ⟨_, ⟨rfl, _⟩ | ⟨g, cap, cur, rfl, hg1, _⟩⟩
        · cases hk
        · simp only [Value.ownBlock, Option.some.injEq] at hk; omega
      have hit : w'.heap[w.heap.size]? = some (.mapIter (some mp) clock (seen.push e.born) clock) := by
        rw [hg'.block w.heap.size (by simp; omega) (fun h => by have := hgb _ h.symm; omega)]
        rw [RowKit.Below.heap_alloc _ _ _ (by simp; omega), RowKit.Below.heap_alloc _ _ _ (by omega)]
        exact hr2
      have hs' : w.heap.size + 1 ≤ w'.heap.size := by have := hg'.size; simp at this; omega
      refine ⟨⟨seen.push e.born, l ++ [(p1, p2)], hit, ?_, ?_, ?_, hs', by simp⟩, ?_⟩
      · refine List.Perm.trans ?_ hp
        rw [List.map_append, List.append_assoc]
        refine List.Perm.append_left _ ?_
        have h1 := hpe.map (·.key)
        rw [List.map_cons, hke] at h1
        exact h1.symm
      · rw [List.length_append, List.flatMap_append]
        simpa using ho'
      · exact ((hU3.alloc (by omega) _).alloc (by simp; omega) _).grown hg' (by simp; omega) (fun k hk => by have := hgb k hk; omega)
      · have e1 : w'.iterSeen w.heap.size = seen.push e.born := by unfold World.iterSeen; rw [hit]
        have e2 : wr.iterSeen w.heap.size = seen := by unfold World.iterSeen; rw [hrh.out]
        rw [e1, e2]
        exact hmeas
end Go.Proofs.YtbkegflipglioaaGreat
