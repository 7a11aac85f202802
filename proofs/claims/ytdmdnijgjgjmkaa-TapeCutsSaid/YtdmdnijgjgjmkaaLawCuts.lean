/- TapeCuts: the walk. -/
import Derived.Test.YtdmdnijgjgjmkaaProg
import Derived.Test.YtdmdnijgjgjmkaaTapeLaws
import Derived.Test.YtdmdnijgjgjmkaaTapeParse
import Derived.Test.YtdmdnijgjgjmkaaCut25
set_option maxRecDepth 20000
namespace Go.Proofs.Ytdmdnijgjgjmkaa
open Go.RowKit

theorem at_appl {P : Program} {ops : Array Oper} {Q : Exit → Act → World → Prop} {rest : List Oper} {a : Act} {w : World} {dst : Option Tmp} {ty : TypeId} {pos : String} {after : Array Edge} {s x : Operand} {ts : Array TypeId}
    (h : wpList P ops Q (⟨dst, .call { callee := .builtin .append, args := #[s, x], argTypes := ts }, ty, pos, after, none⟩ :: rest) a w) : wpList P ops Q (⟨dst, .call { callee := .builtin .append, args := #[s, x], argTypes := ts }, ty, pos, after, none⟩ :: rest) a w := h
theorem cut_at (x : Int) (n : Nat) (h0 : 0 < n) (hn : n ≤ 1000000000) : ∃ K : Nat, wrap64 ((IntKind.u64.wrap x).tmod (n : Int)) = (K : Int) ∧ K < n := by
  have e : IntKind.u64.wrap x = x % 18446744073709551616 := IntKind.wrap_u64 x
  have h1 : 0 ≤ x % 18446744073709551616 := Int.emod_nonneg _ (by decide)
  rw [e, Int.tmod_eq_emod_of_nonneg h1]
  have h2 : 0 ≤ (x % 18446744073709551616) % (n : Int) := Int.emod_nonneg _ (by omega)
  have h3 : (x % 18446744073709551616) % (n : Int) < n := Int.emod_lt_of_pos _ (by omega)
  generalize (x % 18446744073709551616) % (n : Int) = y at *
  refine ⟨y.toNat, ?_, by omega⟩
  rw [wrap64_small _ (by omega), Int.toNat_of_nonneg h2]
set_option maxHeartbeats 4000000 in
theorem l34_cuts (h : Hd) (l : List OpD) (vl : Value) (at_ : Int) (more : Nat) (w : World) (hv : Vec w vl l.length (opCells l)) (hl : ∀ o ∈ l, OpOk w o) (hd : 0 ≤ h.d ∧ h.d ≤ 4294967295) (hm : more < 256) :
    Calls Try.prog 9 #[.agg h.cells.toArray, vl, .int .i64 at_, .int .u8 more] w fun e w' => e = .returned (.bool true) ∧ Upd [] w w' := by
  obtain ⟨a, cap, rfl, hcap, hmax, hcell⟩ := hv
  go_enter Try.func9, Try.ntmps9
  go_wp2_with fail
  have hB0 : Blk (w.alloc (Obj.cells h.cells.toArray 64)) w.heap.size 64 h.cells := heap_alloc_new w _
  have hU0 := upd_new w (Obj.cells h.cells.toArray 64)
  generalize w.alloc (Obj.cells h.cells.toArray 64) = w0 at *
  go_loopw [9, 10] (fun sv i wr => ∃ (j : Nat) (acc : List OpD), i = .int .i64 j ∧ j ≤ l.length ∧ j ≤ 40 ∧ acc.length = j ∧ wr.ownsRow w0.heap.size 68 2 sv acc.length (opCells acc) ∧ (∀ o ∈ acc, OpOk w o) ∧ Upd [] w0 wr) (fun _ i _ => 40 - (intOf i).toNat)
  case atStart => exact ⟨0, [], rfl, by omega, by omega, rfl, own_nil _ _ _ _, by simp, Upd.refl _ _⟩
  case round =>
    obtain ⟨j, acc, rfl, hj, hj40, hacc, hrow, hops, hU⟩ := hrel
    have hUw := hU0.trans hU
    by_cases hlt : j < l.length ∧ j < 40
    · obtain ⟨hlt, h40⟩ := hlt
      have h40' : (j : Int) < 40 := by omega
      have hok1 := hl _ (List.getElem_mem hlt)
      obtain ⟨g0, g1⟩ := opCells_get l hlt
      rcases hcell with h0 | ⟨b, o, rfl, hb, hcl⟩
      · have := congrArg List.length h0; rw [opCells_len] at this; simp only [List.length_nil] at this; omega
      have k0 : wr.cell? ⟨b, o + j * 2, none⟩ = some (.int .i64 l[j].k) := (hUw.cell hb (by simp)).trans (hcl _ _ g0)
      have k1 : wr.cell? ⟨b, o + j * 2 + 1, none⟩ = some l[j].v := by rw [Nat.add_assoc]; exact (hUw.cell hb (by simp)).trans (hcl _ _ g1)
      have hjc : j < cap := Nat.lt_of_lt_of_le hlt hcap
      clear hcl g0 g1
      generalize l[j] = o1 at *
      obtain ⟨k, ns, v1⟩ := o1
      have hok0 := hok1
      obtain ⟨⟨ov, oc, hve, hvr⟩, hw64⟩ := hok1
      dsimp only at hve hw64 k0 k1
      subst hve
      clear hvr
      have hcn : Held ((acc.length + 1) * (32 + 1) ≤ 140737488355328) := ⟨by omega⟩
      go_wp2_with fail
      refine (l25_cut ⟨k, ns, .slice ov ns.length oc⟩ w _ hok0).mono ?_
      rintro e w1 ⟨v', rfl, hok2, hu1⟩
      have hrow1 := own_upd0 hrow hu1
      have hsz1 : w0.heap.size ≤ w1.heap.size := Nat.le_trans hU.size hu1.size
      have hone : ∀ u ∈ (Value.agg #[.int .i64 k, v']).cells.toList, u.oneCell' = true := by
        obtain ⟨⟨x, c, h1, _⟩, _⟩ := hok2
        have hv' : v' = .slice x (OpD.cut ⟨k, ns, .slice ov ns.length oc⟩ v').ns.length c := h1
        rw [hv']
        intro u hu
        simp [Value.cells] at hu
        rcases hu with rfl | rfl <;> rfl
      go_wp2_with ((with_reducible refine at_push ?_); refine wpList_push w0.heap.size 68 info_op Try.underlying65 rfl (by decide) (by decide) (.agg #[.int .i64 k, v']) rfl rfl hone hrow1 rfl rfl hsz1 hcn.out ?_; intro v2 w2 ho2 hg2)
      case roundEnd =>
        have hU2 := (hU.trans hu1).push hrow1 hg2
        refine ⟨⟨j + 1, acc ++ [OpD.cut ⟨k, ns, .slice ov ns.length oc⟩ v'], rfl, by omega, by omega, by simp [hacc], ?_, ?_, hU2⟩, by simp only [intOf]; omega⟩
        · rw [List.length_append, opCells_append]; exact ho2
        · intro o ho
          rcases List.mem_append.1 ho with h | h
          · exact hops o h
          · rw [List.mem_singleton.1 h]; exact hok2
    · subst hacc
      have hBr := hB0.upd hU (by simp)
      have hW := Held.mk (fun o ho => (hops o ho).w64)
      have hfit := Held.mk (fun he => fit_of (h := h) (l := acc) he hd.2 hW.out (by omega))
      have hVs := vec_of_own hrow
      obtain ⟨sa, sc, rfl, _, _, _⟩ := id hVs
      have hout : ¬ (acc.length : Int) < l.length ∨ (acc.length : Int) < l.length ∧ ¬ (acc.length : Int) < 40 := by omega
      clear hcell hlt
      rcases hout with hj1 | ⟨hj1, hj2⟩
      all_goals
        go_wp2_with ((with_reducible refine at_load 64 ?_); refine wpList_load_all rfl 64 _ rfl hBr rfl 5 _ Try.underlying64 rfl head_size rfl ?_)
        refine (tape_bytes h acc _ wr hVs (fun o ho => (hops o ho).upd hUw) ⟨by omega⟩ hd).mono ?_
        rintro e w1 ⟨hu1, ⟨he, vb, rfl, hown⟩ | ⟨he, rfl⟩⟩
        · have hU1 := hUw.trans hu1
          have hf := Held.mk (hfit.out he)
          have hVb := vec_of_own hown
          have hx0 : 0 < (tapeB h acc.length acc).length := by simp [tapeB]
          have hxl := Held.mk (tapeB_len h acc.length acc hd.2 hf.out.hc ⟨by omega⟩ hW.out hf.out.ops)
          have hxb := Held.mk (tapeB_bytes h acc.length acc)
          have hcut := Held.mk (tape_cut hf.out hd.1)
          have hmore := Held.mk (tape_parsed hf.out hd.1 [more])
          generalize tapeB h acc.length acc = xs at *
          obtain ⟨bx, bc, rfl, hbc, hbm, hbcell⟩ := id hVb
          obtain ⟨xb, xo, rfl, hxb', hxv⟩ : ∃ b o, bx = some ⟨b, o, none⟩ ∧ b < w1.heap.size ∧ ∀ j u, (bys xs)[j]? = some u → w1.cell? ⟨b, o + j, none⟩ = some u := by
            rcases hbcell with h | h
            · have := congrArg List.length h; rw [bys_len, List.length_nil] at this; omega
            · exact h
          have hx1 : ((xs.length : Int) == 0) = false := by simp only [beq_eq_false_iff_ne, ne_eq]; omega
          have hxw : IntKind.u64.wrap (xs.length : Int) = xs.length := by have := hxl.out; rw [IntKind.wrap_u64]; omega
          obtain ⟨K, hK, hKl⟩ := cut_at at_ xs.length hx0 (by have := hxl.out; omega)
          have hK' : True → wrap64 ((IntKind.u64.wrap at_).tmod (xs.length : Int)) = (K : Int) := fun _ => hK
          have hxn : ¬ (xs.length : Int) = 0 := by clear hK; omega
          have hKc : (K : Int) ≤ bc := by clear hK; omega
          have hK0 : (0 : Int) ≤ K := by clear hK; omega
          have hVk := Held.mk (hVb.cut K K (by clear hK; omega))
          have hKH := Held.mk hK
          have hVk2 : Vec w1 (.slice (some ⟨xb, xo, none⟩) K bc) (xs.take K).length (bys (xs.take K)) := by
            have h1 : (xs.take K).length = K := by rw [List.length_take]; clear hK; omega
            have h2 : bys (xs.take K) = (bys xs).take K := by simp [bys, List.map_take]
            rw [h1, h2]; exact hVk.out
          clear he hown hrow hVs hK
          go_wp2_with fail
          rw [hKH.out]
          clear hKH hK'
          refine (tape_parse _ (xs.take K) w1 (fun x hx => hxb.out x (List.mem_of_mem_take hx)) hVk2 ⟨by have := hxl.out; rw [List.length_take]; omega⟩).mono ?_
          rintro e w2 ⟨hu2, ⟨err, hp1, hn1, rfl⟩ | ⟨hs, os, hp1, _⟩⟩
          · have herr := Held.mk (show err = if K = 0 then 3 else 4 by rw [hcut.out K hKl] at hp1; exact (Except.error.inj hp1).symm)
            clear hp1 hcut hn1 hVk2 hVk
            have hVb2 := hVb.upd hu2
            have hU2 := hU1.trans hu2
            go_wp2_with (first
              | ((with_reducible refine at_alloc 64 ?_); refine wpList_alc rfl _ rfl hd0.cells head_zero ?_; intro w3 hG3 hU3 hs3; replace hs3 := Held.mk hs3)
              | ((with_reducible refine at_store 64 ?_); refine wpList_store_all rfl 64 _ _ rfl hG3 rfl hd0.cells rfl 5 head_size rfl rfl (by simp [Hd.cells, hd0, Value.oneCell']) ?_; intro w4 hG4 hU4 hs4; replace hs4 := Held.mk hs4; have hU24 := (hU3.and hU4 (by simp)); have hVb4 := hVb2.upd hU24; have hxv5 := Held.mk (fun (j : Nat) (u : Value) (hj : (bys xs)[j]? = some u) => ((hu2.trans hU24).trans (upd_new w4 (Obj.cells #[] 5))).cell (a := ⟨xb, xo + j, none⟩) hxb' (by simp) |>.trans (hxv j u hj)); have ho5 : (w4.alloc (Obj.cells #[] 5)).ownsRow w4.heap.size 5 1 (.slice (some ⟨w4.heap.size, 0, none⟩) 0 0) 0 [] := own_of_blk (xs := []) (heap_alloc_new w4 _) (Nat.le_refl _) rfl (by decide); clear hG4 hG3 hU3 hU4)
              | ((with_reducible refine at_push ?_); refine wpList_push w4.heap.size 5 info_u8 Try.underlying53 rfl (by decide) (by decide) (.int .u8 (more : Nat)) rfl rfl (bys_one' _) ho6 rfl rfl hsz6 (by have := hxl.out; omega) ?_; intro v7 w7 ho7 hg7)
              | ((with_reducible refine at_appl ?_); refine wpList_app rfl _ _ 53 rfl w4.heap.size 5 info_u8 Try.underlying53 rfl (by decide) rfl ho5 (ad := ⟨xb, xo, none⟩) (m := xs.length) (c := bc) (news := bys xs) rfl (by simp [bys]) (fun j u hj => by rw [Addr.add_mid]; exact hxv5.out j u hj) (bys_one _) (by have := hxl.out; have := maxLen_eq; omega) (by have := hxl.out; omega) (by simp) ?_; intro v6 w6 ho6 hg6; rw [Nat.zero_add, List.nil_append] at ho6; have hsz6 : w4.heap.size ≤ w6.heap.size := (by have := hg6.size; simp at this; omega)))
            have hU4w := (hU2.trans hU24).trans (upd_new w4 (Obj.cells #[] 5))
            have hsz4 := (hU2.trans hU24).size
            have hU6 := hU4w.grown hg6 (fun k hk => Or.inr (Nat.le_trans hsz4 (own_block ho5 k hk)))
            have hU7 := hU6.grown hg7 (fun k hk => Or.inr (Nat.le_trans hsz4 (own_block ho6 k hk)))
            have hV7 : Vec w7 v7 (xs ++ [more]).length (bys (xs ++ [more])) := by
              rw [List.length_append, bys_append]; exact vec_of_own ho7
            refine (tape_parse _ (xs ++ [more]) w7 (fun x hx => by
              rcases List.mem_append.1 hx with h | h
              · exact hxb.out x h
              · rw [List.mem_singleton.1 h]; exact hm) hV7 ⟨by have := hxl.out; rw [List.length_append, List.length_singleton]; omega⟩).mono ?_
            rintro e w8 ⟨hu8, ⟨err2, hp2, hn2, rfl⟩ | ⟨hs2, os2, hp2, _⟩⟩
            · obtain rfl : err2 = 3 := by rw [hmore.out, if_neg (by simp)] at hp2; exact (Except.error.inj hp2).symm
              have hU8 := hU7.trans hu8
              clear hp2 hn2 hV7 hU7 hU6 hU4w hu8 ho7 ho6 ho5 hg7 hg6 hsz6 hxv5 hVb4 hVb2
              by_cases hKz : K = 0
              · obtain rfl : err = 3 := by rw [herr.out, if_pos hKz]
                subst hKz
                go_wp2_with (first
                  | ((with_reducible refine at_alloc 64 ?_); refine wpList_alc rfl _ rfl hd0.cells head_zero ?_; intro w13 hG13 hU13 hs13; replace hs13 := Held.mk hs13)
                  | ((with_reducible refine at_store 64 ?_); refine wpList_store_all rfl 64 _ _ rfl hG13 rfl hd0.cells rfl 5 head_size rfl rfl (by simp [Hd.cells, hd0, Value.oneCell']) ?_; intro w14 hG14 hU14 hs14; replace hs14 := Held.mk hs14; have hU84 := hU8.trans (hU13.and hU14 (by simp)))
                  | (go_at_call 31; refine (l34_known _).mono ?_; rintro e w9 ⟨rfl, hu9⟩))
                go_ret
                exact ⟨rfl, hU84.trans hu9⟩
              · obtain rfl : err = 4 := by rw [herr.out, if_neg hKz]
                have hKz' : ((K : Int) == 0) = false := by simp only [beq_eq_false_iff_ne, ne_eq]; omega
                go_wp2_with (first
                  | ((with_reducible refine at_alloc 64 ?_); refine wpList_alc rfl _ rfl hd0.cells head_zero ?_; intro w13 hG13 hU13 hs13; replace hs13 := Held.mk hs13)
                  | ((with_reducible refine at_store 64 ?_); refine wpList_store_all rfl 64 _ _ rfl hG13 rfl hd0.cells rfl 5 head_size rfl rfl (by simp [Hd.cells, hd0, Value.oneCell']) ?_; intro w14 hG14 hU14 hs14; replace hs14 := Held.mk hs14; have hU84 := hU8.trans (hU13.and hU14 (by simp)))
                  | (go_at_call 31; refine (l34_known _).mono ?_; rintro e w9 ⟨rfl, hu9⟩))
                go_ret
                exact ⟨rfl, hU84.trans hu9⟩
            · rw [hmore.out, if_neg (by simp)] at hp2
              cases hp2
          · rw [hcut.out K hKl] at hp1
            cases hp1
        · have hne : (tapeErr h acc != 0) = true := by simp only [bne_iff_ne, ne_eq]; exact he
          go_wp2_with (go_at_call 31; refine (l34_known _).mono ?_; rintro e w9 ⟨rfl, hu9⟩)
          go_ret
          exact ⟨rfl, (hUw.trans hu1).trans hu9⟩
end Go.Proofs.Ytdmdnijgjgjmkaa
