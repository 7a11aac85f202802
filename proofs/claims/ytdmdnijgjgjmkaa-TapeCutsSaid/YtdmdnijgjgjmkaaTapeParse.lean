/- tape.Parse: the head and the operations of a tape. -/
import Derived.Test.YtdmdnijgjgjmkaaProg
import Derived.Test.YtdmdnijgjgjmkaaParseS
import Derived.Test.YtdmdnijgjgjmkaaKnown34
import Derived.ScopeJumps
import Derived.WalkMore
set_option maxRecDepth 20000
namespace Go.Proofs.Ytdmdnijgjgjmkaa
open Go.RowKit

def hdOf (xs : List Nat) : Hd := ⟨(xs.getD 0 0 : Nat), (xs.getD 1 0 : Nat), (xs.getD 2 0 : Nat), (xs.getD 3 0 : Nat), (xs.getD 4 0 : Nat)⟩
/-- What Parse answers. -/
def ParseAns (d : List Nat) (w : World) (e : Ending) (w' : World) : Prop :=
  Upd [] w w' ∧ ((∃ err, parseP d = .error err ∧ err ≠ 0 ∧ e = .returned (.tuple #[.agg hd0.cells.toArray, .slice none 0 0, .int .i64 (err : Nat)])) ∨
    (∃ hs os, parseP d = .ok (hs, os) ∧ ∃ (v : Value) (l : List OpD), e = .returned (.tuple #[.agg (hdOf hs).cells.toArray, v, .int .i64 0]) ∧ Vec w' v l.length (opCells l) ∧ (∀ o ∈ l, OpOk w' o) ∧ l.map (fun o => (o.k, o.ns)) = os.map (fun o => (((o.1 : Nat) : Int), o.2))))

theorem results_blk_tmp2 {P : Program} {w : World} {fn : Func} {p q q2 : Tmp} {ty : TypeId} (h : fn.results = #[.cell p ty, .tmp q, .tmp q2]) (tmps : Array Value) {b : Nat} {T : TypeId} {cs : List Value} (hb : Blk w b T cs) (hp : tmps.getD p undef = .pointer (some ⟨b, 0, none⟩)) {n : Nat} {d : TypeDesc}
    (hu : P.underlying ty = some d) (hd : d.isRow = true) (hi : (P.info? ty).map (·.size) = some n) (hn : cs.length = n) : (results fn tmps).run P w = .ok (.tuple #[.agg cs.toArray, tmps.getD q undef, tmps.getD q2 undef]) w := by
  have hp' : tmps[p]?.getD undef = .pointer (some ⟨b, 0, none⟩) := by simpa using hp
  simp [results, h, hp', asAddr, loadVar_blk hb hu hd hi hn]
theorem head_zero : (Try.prog.info? 64).bind (·.zero) = some (.agg hd0.cells.toArray) := by kernel_rfl
theorem head_size : (Try.prog.info? 64).map (·.size) = some 5 := by kernel_rfl
theorem arr5_zero : (Try.prog.info? 103).bind (·.zero) = some (.agg (arr5 []).toArray) := by kernel_rfl
/-- What holds at the jump to 'bad'. -/
def ParseJ (d : List Nat) (w : World) (a' : Act) (w' : World) : Prop := ∃ (u : Nat → Value) (r eb : Nat), a' = ⟨#[u 0, u 1, .pointer (some ⟨r, 0, none⟩), u 3, u 4, u 5, u 6, u 7, u 8, .pointer (some ⟨eb, 0, none⟩), u 10, u 11, u 12, u 13, u 14, u 15, u 16, u 17, u 18, u 19, u 20, u 21, u 22, u 23, u 24, u 25, u 26, u 27, u 28, u 29, u 30, u 31, u 32, u 33, u 34, u 35, u 36, u 37, u 38, u 39, u 40, u 41, u 42, u 43, u 44, u 45, u 46, u 47, u 48, u 49, u 50, u 51, u 52, u 53, u 54, u 55, u 56, u 57, u 58, u 59, u 60, u 61, u 62, u 63, u 64, u 65, u 66, u 67, u 68, u 69, u 70, u 71, u 72, u 73, u 74, u 75, u 76, u 77, u 78, u 79, u 80, u 81, u 82, u 83, u 84, u 85, u 86, u 87, u 88, u 89, u 90, u 91, u 92, u 93, u 94, u 95, u 96, u 97, u 98, u 99, u 100, u 101, u 102, u 103, u 104, u 105, u 106, u 107, u 108, u 109], []⟩ ∧ r ≠ eb ∧ w.heap.size ≤ r ∧
    ∃ err, parseP d = .error err ∧ err ≠ 0 ∧ Blk w' r 64 hd0.cells ∧ Blk w' eb 26 [.int .i64 (err : Nat)] ∧ Upd [] w w'
theorem parseJ_intro {d : List Nat} {w w' : World} (T : Array Value) (r eb : Nat) (hT : T = #[T.getD 0 undef, T.getD 1 undef, .pointer (some ⟨r, 0, none⟩), T.getD 3 undef, T.getD 4 undef, T.getD 5 undef, T.getD 6 undef, T.getD 7 undef, T.getD 8 undef, .pointer (some ⟨eb, 0, none⟩), T.getD 10 undef, T.getD 11 undef, T.getD 12 undef, T.getD 13 undef, T.getD 14 undef, T.getD 15 undef, T.getD 16 undef, T.getD 17 undef, T.getD 18 undef, T.getD 19 undef, T.getD 20 undef, T.getD 21 undef, T.getD 22 undef, T.getD 23 undef, T.getD 24 undef, T.getD 25 undef, T.getD 26 undef, T.getD 27 undef, T.getD 28 undef, T.getD 29 undef, T.getD 30 undef, T.getD 31 undef, T.getD 32 undef, T.getD 33 undef, T.getD 34 undef, T.getD 35 undef, T.getD 36 undef, T.getD 37 undef, T.getD 38 undef, T.getD 39 undef, T.getD 40 undef, T.getD 41 undef, T.getD 42 undef, T.getD 43 undef, T.getD 44 undef, T.getD 45 undef, T.getD 46 undef, T.getD 47 undef, T.getD 48 undef, T.getD 49 undef, T.getD 50 undef, T.getD 51 undef, T.getD 52 undef, T.getD 53 undef, T.getD 54 undef, T.getD 55 undef, T.getD 56 undef, T.getD 57 undef, T.getD 58 undef, T.getD 59 undef, T.getD 60 undef, T.getD 61 undef, T.getD 62 undef, T.getD 63 undef, T.getD 64 undef, T.getD 65 undef, T.getD 66 undef, T.getD 67 undef, T.getD 68 undef, T.getD 69 undef, T.getD 70 undef, T.getD 71 undef, T.getD 72 undef, T.getD 73 undef, T.getD 74 undef, T.getD 75 undef, T.getD 76 undef, T.getD 77 undef, T.getD 78 undef, T.getD 79 undef, T.getD 80 undef, T.getD 81 undef, T.getD 82 undef, T.getD 83 undef, T.getD 84 undef, T.getD 85 undef, T.getD 86 undef, T.getD 87 undef, T.getD 88 undef, T.getD 89 undef, T.getD 90 undef, T.getD 91 undef, T.getD 92 undef, T.getD 93 undef, T.getD 94 undef, T.getD 95 undef, T.getD 96 undef, T.getD 97 undef, T.getD 98 undef, T.getD 99 undef, T.getD 100 undef, T.getD 101 undef, T.getD 102 undef, T.getD 103 undef, T.getD 104 undef, T.getD 105 undef, T.getD 106 undef, T.getD 107 undef, T.getD 108 undef, T.getD 109 undef]) (hne : r ≠ eb) (hr : w.heap.size ≤ r) (err : Nat) (hp : parseP d = .error err) (he : err ≠ 0)
    (hR : Blk w' r 64 hd0.cells) (hE : Blk w' eb 26 [.int .i64 (err : Nat)]) (hU : Upd [] w w') : ParseJ d w ⟨T, []⟩ w' := ⟨fun i => T.getD i undef, r, eb, congrArg (fun t => (⟨t, []⟩ : Act)) hT, hne, hr, err, hp, he, hR, hE, hU⟩

set_option maxHeartbeats 4000000 in
theorem tape_parse (v : Value) (d : List Nat) (w : World) (hd : ∀ x ∈ d, x < 256) (hv : Vec w v d.length (bys d)) (hlen : Held (d.length ≤ 1000000)) :
    Calls Try.prog 37 #[v] w fun e w' => ParseAns d w e w' := by
  have hv0 := hv
  obtain ⟨a, cap, rfl, hcap, hmax, hcell⟩ := hv
  go_enter Try.func37, Try.ntmps37
  go_wp2_with fail
  refine wp_scope_jumps 0 (ParseJ d w) (fun _ _ => 0) rfl ?first ?pass
  case pass =>
    rintro a' w' ⟨u, r, eb, rfl, hne, hrw, err, hp, he, hR, hE, hU⟩
    have c0 := hE.get 0 rfl
    have r0 := hR.get 0 rfl
    have r1 := hR.get 1 rfl
    have r2 := hR.get 2 rfl
    have r3 := hR.get 3 rfl
    have r4 := hR.get 4 rfl
    have f0 := hR.free 0
    have f1 := hR.free 1
    have f2 := hR.free 2
    have f3 := hR.free 3
    have f4 := hR.free 4
    have hp' := Held.mk hp
    clear hp
    go_wp2_with fail
    go_region
    go_wp2_with fail
    change bodyPost _ _ _ Exit.ret _ _
    refine bodyPost_ret (results_blk_tmp2 rfl _ ((((((hR.set (i := 0) _).set (i := 1) _).set (i := 2) _).set (i := 3) _).set (i := 4) _).drew) rfl Try.underlying64 rfl head_size rfl) rfl ⟨?_, Or.inl ⟨err, hp'.out, he, rfl⟩⟩
    exact (((((hU.setCell ⟨r, 0, none⟩ _ (Or.inr hrw)).setCell ⟨r, 1, none⟩ _ (Or.inr hrw)).setCell ⟨r, 2, none⟩ _ (Or.inr hrw)).setCell ⟨r, 3, none⟩ _ (Or.inr hrw)).setCell ⟨r, 4, none⟩ _ (Or.inr hrw)).drew
  case first =>
    have hB2 : Blk ((w.alloc (Obj.cells #[Value.slice a d.length cap] 53)).alloc (Obj.cells #[Value.int .i64 0, Value.int .i64 0, Value.int .u32 0, Value.int .i64 0, Value.int .i64 0] 64)) w.heap.size 53 [.slice a d.length cap] :=
      Blk.alloc (show Blk (w.alloc (Obj.cells #[Value.slice a d.length cap] 53)) w.heap.size _ _ from heap_alloc_new w _) _
    have hR2 : Blk ((w.alloc (Obj.cells #[Value.slice a d.length cap] 53)).alloc (Obj.cells #[Value.int .i64 0, Value.int .i64 0, Value.int .u32 0, Value.int .i64 0, Value.int .i64 0] 64)) (w.heap.size + 1) 64 hd0.cells := Blk.at (by simp)
    have hs2 : ((w.alloc (Obj.cells #[Value.slice a d.length cap] 53)).alloc (Obj.cells #[Value.int .i64 0, Value.int .i64 0, Value.int .u32 0, Value.int .i64 0, Value.int .i64 0] 64)).heap.size = w.heap.size + 1 + 1 := by simp
    have hU2 := (upd_new w (Obj.cells #[Value.slice a d.length cap] 53)).alloc (Obj.cells #[Value.int .i64 0, Value.int .i64 0, Value.int .u32 0, Value.int .i64 0, Value.int .i64 0] 64)
    generalize (w.alloc (Obj.cells #[Value.slice a d.length cap] 53)).alloc (Obj.cells #[Value.int .i64 0, Value.int .i64 0, Value.int .u32 0, Value.int .i64 0, Value.int .i64 0] 64) = w2 at *
    generalize hrr : w.heap.size + 1 = rr at *
    generalize hbb : w.heap.size = bb at *
    replace hs2 := Held.mk hs2
    replace hbb := Held.mk hbb
    replace hrr := Held.mk hrr
    have hlt2 := hR2.lt
    have hrb : Held (rr = bb + 1) := ⟨by have := hbb.out; have := hrr.out; omega⟩
    have hbw : w.heap.size = bb := hbb.out
    by_cases h84 : d = [] ∨ d.getD 0 0 ≠ 84
    · have hbad' : Held (parseP d = .error 3) := ⟨if_pos h84⟩
      have hcase : d = [] ∨ ∃ (ab ao : Nat) (x : Nat), 0 < d.length ∧ x ≠ 84 ∧ a = some ⟨ab, ao, none⟩ ∧ ab < bb ∧ w.cell? ⟨ab, ao, none⟩ = some (.int .u8 (x : Nat)) := by
        by_cases h0 : d = []
        · exact Or.inl h0
        · have hdp : 0 < d.length := List.length_pos_iff.2 h0
          have hx : d[0] ≠ 84 := by rw [← getD_at hdp]; exact h84.resolve_left h0
          rcases hcell with h | ⟨b, o, h1, h2, h3⟩
          · have := congrArg List.length h; rw [bys_len] at this; simp only [List.length_nil] at this; omega
          · exact Or.inr ⟨b, o, d[0], hdp, hx, h1, h2, by have := h3 0 (.int .u8 (d[0] : Nat)) (by simp [bys, hdp]); exact this⟩
      clear h84 hcell
      rcases hcase with rfl | ⟨ab, ao, x, hdp, hx, rfl, hab, hc0⟩
      · go_wp2_with (first
          | ((with_reducible refine at_alloc 64 ?_); refine wpList_alc rfl _ rfl hd0.cells head_zero ?_; intro w3 hH3 hU3 hs3; replace hs3 := Held.mk hs3)
          | ((with_reducible refine at_alloc 103 ?_); refine wpList_alc rfl _ rfl (arr5 []) arr5_zero ?_; intro w4 hA4 hU4 hs4; replace hs4 := Held.mk hs4)
          | ((with_reducible refine at_alloc 55 ?_); refine wpList_var rfl _ rfl (.int .u64 0) (by kernel_rfl) rfl ?_; intro w5 hL5 hU5 hs5; replace hs5 := Held.mk hs5)
          | ((with_reducible refine at_alloc 26 ?_); refine wpList_var rfl _ rfl (.int .i64 0) (by kernel_rfl) rfl ?_; intro w6 hE6 hU6 hs6; replace hs6 := Held.mk hs6)
          | ((with_reducible refine at_store 26 ?_); refine wpList_put rfl 26 _ _ rfl hE6 rfl (.int .i64 3) rfl rfl (by kernel_rfl) (by decide) ?_; intro w7 hE7 hU7 hs7; replace hs7 := Held.mk hs7; have hB7 := ((((hB2.upd hU3 (by simp)).upd hU4 (by simp)).upd hU5 (by simp)).upd hU6 (by simp)).upd hU7 (by have := hB2.lt; have := hU3.size; have := hU4.size; have := hU5.size; simp; omega); have b0 := hB7.get 0 rfl)
          | go_step3)
        exact ⟨rfl, parseJ_intro _ rr w5.heap.size (by kernel_rfl) (by have := hU3.size; have := hU4.size; have := hU5.size; omega) (by have := hrb.out; omega) 3 hbad'.out (by decide) (((((hR2.upd hU3 (by simp)).upd hU4 (by simp)).upd hU5 (by simp)).upd hU6 (by simp)).upd hU7 (by have := hU3.size; have := hU4.size; have := hU5.size; simp; omega)) hE7
          (((((hU2.trans hU3).trans hU4).trans hU5).trans hU6).and hU7 (by have := hU2.size; have := hU3.size; have := hU4.size; have := hU5.size; simp; omega))⟩
      · have hdl : ((d.length : Int) == 0) = false := by simp only [beq_eq_false_iff_ne, ne_eq]; omega
        have hdc : (0 : Int) < cap := by omega
        have hd1 : (0 : Int) < d.length := by omega
        have hx' : ((x : Int) != 84) = true := by simp only [bne_iff_ne, ne_eq]; omega
        go_wp2_with (first
          | ((with_reducible refine at_alloc 64 ?_); refine wpList_alc rfl _ rfl hd0.cells head_zero ?_; intro w3 hH3 hU3 hs3; replace hs3 := Held.mk hs3)
          | ((with_reducible refine at_alloc 103 ?_); refine wpList_alc rfl _ rfl (arr5 []) arr5_zero ?_; intro w4 hA4 hU4 hs4; replace hs4 := Held.mk hs4)
          | ((with_reducible refine at_alloc 55 ?_); refine wpList_var rfl _ rfl (.int .u64 0) (by kernel_rfl) rfl ?_; intro w5 hL5 hU5 hs5; replace hs5 := Held.mk hs5)
          | ((with_reducible refine at_alloc 26 ?_); refine wpList_var rfl _ rfl (.int .i64 0) (by kernel_rfl) rfl ?_; intro w6 hE6 hU6 hs6; replace hs6 := Held.mk hs6)
          | ((with_reducible refine at_store 26 ?_); refine wpList_put rfl 26 _ _ rfl hE6 rfl (.int .i64 3) rfl rfl (by kernel_rfl) (by decide) ?_; intro w7 hE7 hU7 hs7; replace hs7 := Held.mk hs7; have hB7 := ((((hB2.upd hU3 (by simp)).upd hU4 (by simp)).upd hU5 (by simp)).upd hU6 (by simp)).upd hU7 (by have := hB2.lt; have := hU3.size; have := hU4.size; have := hU5.size; simp; omega); have b0 := hB7.get 0 rfl; have hW7 : Upd [] w w7 := ((((hU2.trans hU3).trans hU4).trans hU5).trans hU6).and hU7 (by have := hU2.size; have := hU3.size; have := hU4.size; have := hU5.size; simp; omega); have ca := (hW7.cell (a := ⟨ab, ao, none⟩) (by rw [hbw]; exact hab) (by simp)).trans hc0)
          | go_step3)
        exact ⟨rfl, parseJ_intro _ rr w5.heap.size (by kernel_rfl) (by have := hU3.size; have := hU4.size; have := hU5.size; omega) (by have := hrb.out; omega) 3 hbad'.out (by decide) (((((hR2.upd hU3 (by simp)).upd hU4 (by simp)).upd hU5 (by simp)).upd hU6 (by simp)).upd hU7 (by have := hU3.size; have := hU4.size; have := hU5.size; simp; omega)) hE7 hW7⟩
    · have hP1 : Held (parseP d = bnd (takes 4294967295 5 5 (d.drop 1)) fun x => if numsChk x.1 ≠ 0 then .error 5 else bnd (takeP 1048576 6 x.2) fun n => bnd (opsP n.1 n.2) fun y => if y.2 ≠ [] then .error 3 else .ok (x.1, y.1)) := ⟨if_neg h84⟩
      have hdp : 0 < d.length := List.length_pos_iff.2 (fun h => h84 (Or.inl h))
      have hd84 : d[0] = 84 := by rw [← getD_at hdp]; exact Classical.byContradiction fun h => h84 (Or.inr h)
      obtain ⟨ab, ao, rfl, hab, hac⟩ : ∃ b o, a = some ⟨b, o, none⟩ ∧ b < bb ∧ ∀ (j : Nat) (u : Value), (bys d)[j]? = some u → w.cell? ⟨b, o + j, none⟩ = some u := by
        rcases hcell with h | h
        · have := congrArg List.length h; rw [bys_len] at this; simp only [List.length_nil] at this; omega
        · exact h
      have hc0 : w.cell? ⟨ab, ao, none⟩ = some (.int .u8 84) := by
        have := hac 0 (.int .u8 (d[0] : Nat)) (by simp [bys, hdp])
        rw [hd84] at this; exact this
      have hd1 : (1 : Int) ≤ d.length := by omega
      have hdc : (0 : Int) < cap := by omega
      have hdne : ((d.length : Int) == 0) = false := by simp only [beq_eq_false_iff_ne, ne_eq]; omega
      have hVi : Vec w (.slice (if d.length = 1 then some ⟨ab, ao, none⟩ else some ⟨ab, ao + 1, none⟩) (d.length - 1) (d.length - 1)) (d.drop 1).length (bys (d.drop 1)) := by
        split
        · rename_i h1; have := vec_drop0 (w := w) (a := some ⟨ab, ao, none⟩) (d := d) 1 (by omega); rwa [h1]
        · have := vec_drop hv0 1 hdp; simpa [Addr.add_mid] using this
      obtain ⟨ap, hap⟩ : ∃ ap : Option Addr, (if d.length = 1 then some ⟨ab, ao, none⟩ else some ⟨ab, ao + 1, none⟩) = ap := ⟨_, rfl⟩
      rw [hap] at hVi
      clear h84 hcell hac
      go_wp2_with (first
        | ((with_reducible refine at_alloc 64 ?_); refine wpList_alc rfl _ rfl hd0.cells head_zero ?_; intro w3 hH3 hU3 hs3; replace hs3 := Held.mk hs3)
        | ((with_reducible refine at_alloc 103 ?_); refine wpList_alc rfl _ rfl (arr5 []) arr5_zero ?_; intro w4 hA4 hU4 hs4; replace hs4 := Held.mk hs4)
        | ((with_reducible refine at_alloc 55 ?_); refine wpList_var rfl _ rfl (.int .u64 0) (by kernel_rfl) rfl ?_; intro w5 hL5 hU5 hs5; replace hs5 := Held.mk hs5)
        | ((with_reducible refine at_alloc 26 ?_); refine wpList_var rfl _ rfl (.int .i64 0) (by kernel_rfl) rfl ?_; intro w6 hE6 hU6 hs6; replace hs6 := Held.mk hs6)
        | ((with_reducible refine at_store 53 ?_); refine wpList_put rfl 53 _ _ rfl hB7 rfl (.slice ap (d.length - 1) (d.length - 1)) rfl rfl (by kernel_rfl) (by simp) ?_; intro w8 hB8 hU8 hs8; replace hs8 := Held.mk hs8; clear hap b0 ca)
        | ((with_reducible refine at_store 26 ?_); refine wpList_put rfl 26 _ _ rfl hE6 rfl (.int .i64 3) rfl rfl (by kernel_rfl) (by decide) ?_; intro w7 hE7 hU7 hs7; replace hs7 := Held.mk hs7; have hB7 := ((((hB2.upd hU3 (by simp)).upd hU4 (by simp)).upd hU5 (by simp)).upd hU6 (by simp)).upd hU7 (by have := hB2.lt; have := hU3.size; have := hU4.size; have := hU5.size; simp; omega); have b0 := hB7.get 0 rfl; have hW7 : Upd [] w w7 := ((((hU2.trans hU3).trans hU4).trans hU5).trans hU6).and hU7 (by have := hU2.size; have := hU3.size; have := hU4.size; have := hU5.size; simp; omega); have ca := (hW7.cell (a := ⟨ab, ao, none⟩) (by rw [hbw]; exact hab) (by simp)).trans hc0))
      have O : Ord w bb rr w2.heap.size w3.heap.size w4.heap.size w5.heap.size := ⟨hbb.out, by have := hrb.out; omega, hR2.lt, by have := hs3.out; omega, by have := hs4.out; omega, by have := hs5.out; omega⟩
      have hq : PS w w8 bb rr w2.heap.size w3.heap.size w4.heap.size w5.heap.size (d.drop 1) hd0.cells (arr5 []) 0 := by
        have o := O
        obtain ⟨o0, o1, o2, o3, o4, o5⟩ := o
        exact ⟨⟨_, hB8, hVi⟩, ((((((hR2.upd hU3 (by simp)).upd hU4 (by simp)).upd hU5 (by simp)).upd hU6 (by simp)).upd hU7 (by simp; omega)).upd hU8 (by simp; omega)),
          (((((hH3.upd hU4 (by simp)).upd hU5 (by simp)).upd hU6 (by simp)).upd hU7 (by simp; omega)).upd hU8 (by simp; omega)),
          ((((hA4.upd hU5 (by simp)).upd hU6 (by simp)).upd hU7 (by simp; omega)).upd hU8 (by simp; omega)),
          (((hL5.upd hU6 (by simp)).upd hU7 (by simp; omega)).upd hU8 (by simp; omega)), ⟨3, hE7.upd hU8 (by simp; omega)⟩, hW7.and hU8 (fun y hy => Or.inr (by simp at hy; omega))⟩
      clear hW7 hB8 hB7 hE7 hE6 hL5 hA4 hH3 hR2 hB2 hU8 hU7 hU6 hU5 hU4 hU3 hU2 hVi hs8 hs7 hs6 hs5 hs4 hs3 hs2 hlt2 hbw hrb hrr hbb hc0 hdne
      generalize w2.heap.size = hh at *
      generalize w3.heap.size = ha at *
      generalize w4.heap.size = lf at *
      generalize w5.heap.size = eb at *
      have hdd : ∀ x ∈ d.drop 1, x < 256 := fun x hx => hd x (List.mem_of_mem_drop hx)
      go_loopw [32] (fun i wr => ∃ (j : Nat) (xs d' : List Nat), i = .int .i64 j ∧ j ≤ 5 ∧ xs.length = j ∧ PS w wr bb rr hh ha lf eb d' hd0.cells (arr5 xs) 0 ∧ (∀ x ∈ d', x < 256) ∧ Held (takes 4294967295 5 5 (d.drop 1) = bnd (takes 4294967295 5 (5 - j) d') fun y => .ok (xs ++ y.1, y.2))) (fun i _ => 5 - (intOf i).toNat)
      case atStart => exact ⟨0, [], d.drop 1, rfl, by omega, rfl, hq, hdd, ⟨by cases takes 4294967295 5 5 (d.drop 1) <;> rfl⟩⟩
      case round =>
        obtain ⟨j, xs, d', rfl, hj, hxl, hq', hd', hT⟩ := hrel
        by_cases hlt : j < 5
        · have hj5 : (j : Int) < 5 := by omega
          have hstep : takes 4294967295 5 (5 - j) d' = bnd (takeP 4294967295 5 d') fun x => bnd (takes 4294967295 5 (5 - (j + 1)) x.2) fun y => .ok (x.1 :: y.1, y.2) := by
            rw [show 5 - j = (5 - (j + 1)) + 1 by omega]; rfl
          go_wp2_with fail
          refine (take_a O hq' hd' 4294967295 5 j (by rw [arr5_len (by omega)]; exact hlt) (by decide) (by decide)).mono ?_
          rintro e w9 (⟨err, e1, rfl, hPE⟩ | ⟨n, d2, e1, rfl, hq2⟩)
          · have hbad : parseP d = .error err := by rw [hP1.out, hT.out, hstep, e1]; rfl
            have hbad' := Held.mk hbad
            clear hbad hstep e1
            go_wp2_with go_step3
            exact ⟨rfl, parseJ_intro _ rr eb (by kernel_rfl) (by have := O.h; have := O.a; have := O.l; have := O.e; omega) (by have := O.b; have := O.r; omega) err hbad'.out hPE.nz hPE.r hPE.e hPE.u⟩
          · have hT2 : Held (takes 4294967295 5 5 (d.drop 1) = bnd (takes 4294967295 5 (5 - (j + 1)) d2) fun y => .ok ((xs ++ [n]) ++ y.1, y.2)) := ⟨by
              rw [hT.out, hstep, e1, bnd_ok]
              simp only [bnd_bnd, bnd_ok]
              congr 1
              funext y
              simp⟩
            have hb2 : ∀ x ∈ d2, x < 256 := fun x hx => by
              have := (takeP_ok hd' e1).1
              exact hd' x (by rw [this]; simp [hx])
            rw [← hxl, arr5_set n (by omega)] at hq2
            clear hstep e1 hT hq'
            go_wp2_with fail
            exact ⟨⟨j + 1, xs ++ [n], d2, rfl, by omega, by simp [hxl], hq2, hb2, hT2⟩, by simp only [intOf]; omega⟩
        · have hj5 : j = 5 := by omega
          subst hj5
          have hnlt : ¬ ((5 : Nat) : Int) < 5 := by omega
          obtain ⟨x0, x1, x2, x3, x4, rfl⟩ : ∃ x0 x1 x2 x3 x4, xs = [x0, x1, x2, x3, x4] := by
            match xs, hxl with
            | [x0, x1, x2, x3, x4], _ => exact ⟨x0, x1, x2, x3, x4, rfl⟩
          have hT5 : takes 4294967295 5 5 (d.drop 1) = .ok ([x0, x1, x2, x3, x4], d') := by rw [hT.out]; simp [takes, bnd_ok]
          have hx := Held.mk (takes_ok 5 hdd hT5).2.2
          have hP2 : Held (parseP d = if numsChk [x0, x1, x2, x3, x4] ≠ 0 then .error 5 else bnd (takeP 1048576 6 d') fun n => bnd (opsP n.1 n.2) fun y => if y.2 ≠ [] then .error 3 else .ok ([x0, x1, x2, x3, x4], y.1)) := ⟨by rw [hP1.out, hT5, bnd_ok]⟩
          have hA := hq'.a
          have hH := hq'.h
          have a0 := hA.get 0 rfl
          have a1 := hA.get 1 rfl
          have a2 := hA.get 2 rfl
          have a3 := hA.get 3 rfl
          have a4 := hA.get 4 rfl
          have w0 : IntKind.i64.wrap (x0 : Int) = x0 := by have := (hx.out x0 (by simp)).1; rw [IntKind.wrap_i64]; omega
          have w1 : IntKind.i64.wrap (x1 : Int) = x1 := by have := (hx.out x1 (by simp)).1; rw [IntKind.wrap_i64]; omega
          have w2 : IntKind.u32.wrap (x2 : Int) = x2 := by have := (hx.out x2 (by simp)).1; rw [IntKind.wrap_u32]; omega
          have w3 : IntKind.i64.wrap (x3 : Int) = x3 := by have := (hx.out x3 (by simp)).1; rw [IntKind.wrap_i64]; omega
          have w4 : IntKind.i64.wrap (x4 : Int) = x4 := by have := (hx.out x4 (by simp)).1; rw [IntKind.wrap_i64]; omega
          have hT5' := Held.mk hT5
          clear hT hT5 hP1
          go_wp2_with (first
            | ((with_reducible refine at_build ?_); refine wpList_bld rfl 64 _ rfl (cells := (hdOf [x0, x1, x2, x3, x4]).cells.toArray) (by kernel_rfl) rfl ?_)
            | ((with_reducible refine at_store 64 ?_); refine wpList_store_all rfl 64 _ _ rfl hH rfl (hdOf [x0, x1, x2, x3, x4]).cells rfl 5 head_size rfl rfl (by simp [Hd.cells, Value.oneCell']) ?_; intro w9 hH9 hU9 hs9; have hq9 := hq'.setH O hH9 hU9)
            | ((with_reducible refine at_load 64 ?_); refine wpList_load_all rfl 64 _ rfl hH9 rfl 5 _ Try.underlying64 rfl head_size rfl ?_))
          refine (script_check x0 x1 x2 x3 x4 w9).mono ?_
          rintro e w10 ⟨rfl, hu10⟩
          have hq10 := hq9.keep O hu10 (by simp)
          obtain ⟨ev, hE10⟩ := hq10.e
          have hnc : numsChk [x0, x1, x2, x3, x4] = headChk x0 x1 x2 x3 x4 := rfl
          rw [hnc] at hP2
          clear hnc w0 w1 w2 w3 w4 a0 a1 a2 a3 a4 hA hH hq' hq9 hH9 hU9 hs9 hu10
          by_cases hc : headChk x0 x1 x2 x3 x4 = 0
          · have hP3 : Held (parseP d = bnd (takeP 1048576 6 d') fun n => bnd (opsP n.1 n.2) fun y => if y.2 ≠ [] then .error 3 else .ok ([x0, x1, x2, x3, x4], y.1)) := ⟨by rw [hP2.out, hc, if_neg (by simp)]⟩
            have hc' := Held.mk hc
            rw [hc]
            clear hc hP2
            go_wp2_with (first
              | ((with_reducible refine at_store 26 ?_); refine wpList_put rfl 26 _ _ rfl hE10 rfl (.int .i64 0) rfl rfl (by kernel_rfl) (by simp) ?_; intro w11 hE11 hU11 hs11; have hq11 := hq10.setE O hE11 hU11; have e0 := hE11.get 0 rfl))
            refine (take_l O hq11 hd' 1048576 6 (by decide) (by decide)).mono ?_
            rintro e w12 (⟨err, e1, rfl, hPE⟩ | ⟨n, d2, e1, rfl, hq12⟩)
            · have hbad' : Held (parseP d = .error err) := ⟨by rw [hP3.out, e1]; rfl⟩
              clear e1
              go_wp2_with go_step3
              exact ⟨rfl, parseJ_intro _ rr eb (by kernel_rfl) (by have := O.h; have := O.a; have := O.l; have := O.e; omega) (by have := O.b; have := O.r; omega) err hbad'.out hPE.nz hPE.r hPE.e hPE.u⟩
            · have hP4 : Held (parseP d = bnd (opsP n d2) fun y => if y.2 ≠ [] then .error 3 else .ok ([x0, x1, x2, x3, x4], y.1)) := ⟨by rw [hP3.out, e1, bnd_ok]⟩
              have hb2 : ∀ x ∈ d2, x < 256 := fun x hx => by
                have := (takeP_ok hd' e1).1
                exact hd' x (by rw [this]; simp [hx])
              have hl2 : Held (d2.length ≤ 1000000 ∧ n ≤ 1048576) := ⟨by
                have h1 := (takeP_ok hd' e1).1
                have h2 := (takeP_ok hd' e1).2.1
                have h3 := (takes_ok 5 hdd hT5'.out).1
                have h4 := congrArg List.length h1
                have h5 := congrArg List.length h3
                rw [List.length_append] at h4 h5
                rw [List.length_drop] at h5
                have := hlen.out
                omega⟩
              clear hP3 e1 hq11 e0 hE11 hU11 hs11 hq10 hE10
              go_wp2_with fail
              go_loopw [6] (fun sv wr => ∃ (L : Nat) (dr : List Nat) (acc : List OpD), PS w wr bb rr hh ha lf eb dr (hdOf [x0, x1, x2, x3, x4]).cells (arr5 [x0, x1, x2, x3, x4]) L ∧ (∀ x ∈ dr, x < 256) ∧ wr.ownsRow (eb + 1) 68 2 sv acc.length (opCells acc) ∧ (∀ o ∈ acc, OwnOp (eb + 1) wr o) ∧
                Held (acc.length + L ≤ 1048576) ∧ Held (opsP n d2 = bnd (opsP L dr) fun y => .ok (acc.map (fun o => (o.k.toNat, o.ns)) ++ y.1, y.2)) ∧ Held (∀ o ∈ acc, 0 ≤ o.k)) (fun _ wr => cellNat wr lf)
              case atStart => exact ⟨n, d2, [], hq12, hb2, own_nil _ _ _ _, by simp, ⟨by have := hl2.out.2; simp; omega⟩, ⟨by cases opsP n d2 <;> simp [bnd]⟩, ⟨by simp⟩⟩
              case round =>
                obtain ⟨L, dr, acc, hqr, hbr, hrow, hops, hcnt, hO, hk0⟩ := hrel
                have l0 := hqr.l.get 0 rfl
                by_cases hL : 0 < L
                · obtain ⟨pL, rfl⟩ : ∃ p, L = p + 1 := ⟨L - 1, by omega⟩
                  have hwp : IntKind.u64.wrap (pL : Int) = pL := by have := hcnt.out; rw [IntKind.wrap_u64]; omega
                  have hL' : (0 : Int) < (pL : Int) + 1 := by omega
                  go_wp2_with (first
                    | ((with_reducible refine at_alloc 55 ?_); have h9 := hK1; clear h9; refine wpList_var rfl _ rfl (.int .u64 0) (by kernel_rfl) rfl ?_; intro w14 hN1 hUn1 hsn1; replace hsn1 := Held.mk hsn1)
                    | ((with_reducible refine at_alloc 55 ?_); refine wpList_var rfl _ rfl (.int .u64 0) (by kernel_rfl) rfl ?_; intro w13 hK1 hUk1 hsk1; replace hsk1 := Held.mk hsk1))
                  have hebr : eb < wr.heap.size := by obtain ⟨x, h⟩ := hqr.e; exact h.lt
                  have hwr13 : wr.heap.size < w13.heap.size := hK1.lt
                  have hstep : Held (opsP (pL + 1) dr = bnd (opP dr) fun x => bnd (opsP pL x.2) fun y => .ok (x.1 :: y.1, y.2)) := ⟨rfl⟩
                  have herr : Held (∀ err, opP dr = .error err → parseP d = .error err) := ⟨fun err h => by rw [hP4.out, hO.out, hstep.out, h]; rfl⟩
                  have hq14 := hqr.keep O (hUk1.trans hUn1) (by simp)
                  refine (take_o O hq14 hbr 18446744073709551615 9 wr.heap.size hebr (hK1.upd hUn1 (by simp)) (by decide) (by decide)).mono ?_
                  rintro e w15 (⟨err, e1, rfl, hPE⟩ | ⟨kk, d3, e1, rfl, hq15, hK15, hU15⟩)
                  · have hbad' : Held (parseP d = .error err) := ⟨herr.out err (by unfold opP; rw [e1]; rfl)⟩
                    clear e1
                    go_wp2_with go_step3
                    exact ⟨rfl, parseJ_intro _ rr eb (by kernel_rfl) (by have := O.h; have := O.a; have := O.l; have := O.e; omega) (by have := O.b; have := O.r; omega) err hbad'.out hPE.nz hPE.r hPE.e hPE.u⟩
                  · have hb3 : ∀ x ∈ d3, x < 256 := fun x hx => hbr x (by rw [(takeP_ok hbr e1).1]; simp [hx])
                    have hkk : Held (kk < 18446744073709551616) := ⟨(takeP_ok hbr e1).2.2⟩
                    have hN15 := hN1.upd hU15 (by have := O.r; have := O.h; have := O.a; have := O.l; have := O.e; simp; omega)
                    have e1' := Held.mk e1
                    clear e1
                    go_wp2_with fail
                    refine (take_o O hq15 hb3 1048576 6 w13.heap.size (by omega) hN15 (by decide) (by decide)).mono ?_
                    rintro e w16 (⟨err, e2, rfl, hPE⟩ | ⟨M, d4, e2, rfl, hq16, hN16, hU16⟩)
                    · have hbad' : Held (parseP d = .error err) := ⟨herr.out err (by unfold opP; rw [e1'.out, bnd_ok, e2]; rfl)⟩
                      clear e2
                      go_wp2_with go_step3
                      exact ⟨rfl, parseJ_intro _ rr eb (by kernel_rfl) (by have := O.h; have := O.a; have := O.l; have := O.e; omega) (by have := O.b; have := O.r; omega) err hbad'.out hPE.nz hPE.r hPE.e hPE.u⟩
                    · have hb4 : ∀ x ∈ d4, x < 256 := fun x hx => hb3 x (by rw [(takeP_ok hb3 e2).1]; simp [hx])
                      have hM : Held (M ≤ 1048576) := ⟨(takeP_ok hb3 e2).2.1⟩
                      have hOP : Held (opP dr = bnd (takes 18446744073709551615 5 M d4) fun y => if chk (kk : Nat) y.1 = 0 then .ok ((kk, y.1), y.2) else .error (chk (kk : Nat) y.1)) := ⟨by unfold opP; rw [e1'.out, bnd_ok, e2, bnd_ok]⟩
                      have hK16 := hK15.upd hU16 (by have := O.r; have := O.h; have := O.a; have := O.l; have := O.e; simp; omega)
                      have k0 := hK16.get 0 rfl
                      clear e2
                      go_wp2_with fail
                      all_goals
                        generalize hw17 : w16.alloc _ = w17
                        have hU17 : Upd [] w16 w17 := by rw [← hw17]; exact upd_new _ _
                        have hs17 : Held (w17.heap.size = w16.heap.size + 1) := ⟨by rw [← hw17]; simp⟩
                        obtain ⟨K, hKc, hB17⟩ : ∃ K : Int, Held (∀ ns, chk K ns = chk (kk : Nat) ns ∧ (chk (kk : Nat) ns = 0 → K = (kk : Nat))) ∧ Blk w17 w16.heap.size 68 [.int .i64 K, .slice none 0 0] := by
                          first
                            | exact ⟨(kk : Nat), ⟨fun ns => ⟨rfl, fun _ => rfl⟩⟩, by rw [← hw17]; exact heap_alloc_new w16 _⟩
                            | exact ⟨1048576, ⟨fun ns => ⟨by rw [chk_big (by omega), chk_big (by omega)], fun h => by rw [chk_big (by omega)] at h; omega⟩⟩, by rw [← hw17]; exact heap_alloc_new w16 _⟩
                        clear hw17
                        have hq17 := hq16.keep O hU17 (by simp)
                        have hN17 := hN16.upd hU17 (by simp)
                        have h16 : w13.heap.size < w16.heap.size := hN16.lt
                        have hUa : Upd [bb] wr w17 := (((((hUk1.trans hUn1).mono (S' := [bb]) (by simp)).and hU15 (by simp)).and hU16 (by intro y hy; simp at hy; rcases hy with rfl | rfl; exact Or.inr (by omega); exact Or.inl (by simp))).and hU17 (by simp))
                        clear hq16 hN16 hq15 hN15 hK16 hK15 hU15 hU16 hU17 hK1 hN1 hUk1 hUn1 hq14 k0 e1'
                        generalize hob : w16.heap.size = ob at *
                        generalize hnb : w13.heap.size = nb at *
                        replace hob := Held.mk hob
                        replace hnb := Held.mk hnb
                        go_loopw [] (fun wi => ∃ (m : Nat) (de ns : List Nat) (vN : Value), PS w wi bb rr hh ha lf eb de (hdOf [x0, x1, x2, x3, x4]).cells (arr5 [x0, x1, x2, x3, x4]) (pL + 1) ∧ (∀ x ∈ de, x < 256) ∧ Blk wi nb 55 [.int .u64 (m : Nat)] ∧ Blk wi ob 68 [.int .i64 K, vN] ∧
                          wi.ownsRow w17.heap.size 55 1 vN ns.length (u64s ns) ∧ (∀ x ∈ ns, W64 x) ∧ Upd [bb, ob, nb] w17 wi ∧ Held (ns.length + m ≤ 1048576) ∧ Held (takes 18446744073709551615 5 M d4 = bnd (takes 18446744073709551615 5 m de) fun y => .ok (ns ++ y.1, y.2)))
                          (fun wi => cellNat wi nb)
                        case atStart => exact ⟨M, d4, [], _, hq17, hb4, hN17, hB17, own_nil _ _ _ _, by simp, Upd.refl _ _, ⟨by have := hM.out; simp; omega⟩, ⟨by cases takes 18446744073709551615 5 M d4 <;> simp [bnd]⟩⟩
                        case round =>
                          obtain ⟨m, de, ns, vN, hqi, hbi, hNi, hBi, hrowi, hns64, hUi, hcnti, hTi⟩ := hrel
                          have n0 := hNi.get 0 rfl
                          by_cases hm : 0 < m
                          · obtain ⟨q, rfl⟩ : ∃ q, m = q + 1 := ⟨m - 1, by omega⟩
                            have hwq : IntKind.u64.wrap (q : Int) = q := by have := hcnti.out; rw [IntKind.wrap_u64]; omega
                            have hm' : (0 : Int) < (q : Int) + 1 := by omega
                            go_wp2_with (((with_reducible refine at_alloc 55 ?_); refine wpList_var rfl _ rfl (.int .u64 0) (by kernel_rfl) rfl ?_; intro w18 hX18 hU18 hs18; replace hs18 := Held.mk hs18))
                            have hebi : eb < wr.heap.size := by obtain ⟨x, h⟩ := hqi.e; exact h.lt
                            have hq18 := hqi.keep O hU18 (by simp)
                            refine (take_o O hq18 hbi 18446744073709551615 5 wr.heap.size hebi hX18 (by decide) (by decide)).mono ?_
                            rintro e w19 (⟨err, e3, rfl, hPE⟩ | ⟨X, df, e3, rfl, hq19, hX19, hU19⟩)
                            · have hbad' : Held (parseP d = .error err) := ⟨herr.out err (by rw [hOP.out, hTi.out, takes, e3]; rfl)⟩
                              clear e3
                              go_wp2_with go_step3
                              exact ⟨rfl, parseJ_intro _ rr eb (by kernel_rfl) (by have := O.h; have := O.a; have := O.l; have := O.e; omega) (by have := O.b; have := O.r; omega) err hbad'.out hPE.nz hPE.r hPE.e hPE.u⟩
                            · have hTn : Held (takes 18446744073709551615 5 M d4 = bnd (takes 18446744073709551615 5 q df) fun y => .ok ((ns ++ [X]) ++ y.1, y.2)) := ⟨by
                                rw [hTi.out]
                                rw [takes, e3, bnd_ok, bnd_bnd]
                                simp only [bnd_ok]
                                congr 1
                                funext y
                                simp⟩
                              have hbf : ∀ x ∈ df, x < 256 := fun x hx => hbi x (by rw [(takeP_ok hbi e3).1]; simp [hx])
                              have hX64 : W64 X := ⟨(takeP_ok hbi e3).2.2⟩
                              clear e3
                              have hUb : Upd [bb] wr w19 := (hU18.mono (S' := [bb]) (by simp)).and hU19 (by intro y hy; simp at hy; rcases hy with rfl | rfl; exact Or.inr (Nat.le_refl _); exact Or.inl (by simp))
                              have hbord : bb < nb ∧ bb < ob ∧ nb < w17.heap.size ∧ eb < w17.heap.size ∧ ob < w17.heap.size := by have := O.r; have := O.h; have := O.a; have := O.l; have := O.e; have := hs17.out; have := hob.out; omega
                              obtain ⟨nx, nm, nc, rfl⟩ := own_slice hrowi
                              have hob19 := hBi.upd hUb (by simp; omega)
                              have hN19 := hNi.upd hUb (by simp; omega)
                              have hrow19 := own_keep hrowi hUb (by simp; omega)
                              have n19 := hob19.get 1 rfl
                              have x19 := hX19.get 0 rfl
                              have hsz19 : w17.heap.size ≤ w19.heap.size := Nat.le_trans hUi.size hUb.size
                              have hcn : Held ((ns.length + 1) * (8 + 1) ≤ 140737488355328) := ⟨by have := hcnti.out; omega⟩
                              have hone : ∀ u ∈ (Value.int .u64 (X : Nat)).cells.toList, u.oneCell' = true := by intro u hu; simp [Value.cells] at hu; subst hu; rfl
                              clear n0 hq18 hX18
                              go_wp2_with (first
                                | ((with_reducible refine at_push ?_); refine wpList_push w17.heap.size 55 info_u64 Try.underlying52 rfl (by decide) (by decide) (.int .u64 (X : Nat)) rfl rfl hone hrow19 rfl rfl hsz19 hcn.out ?_; intro v20 w20 ho20 hg20; obtain ⟨px, pm, pc, rfl⟩ := own_slice ho20; have hob20 := hob19.grown hg20 (own_ne hrow19 hob19 (by decide)); have hN20 := hN19.grown hg20 (fun h => by have := own_lt' hrow19 _ h; omega); have hq20 := hq19.keep O (upd_grown hg20) (fun x hx => by have := own_lt' hrow19 x (by simpa using hx); omega); have hU20 := (hUi.and hUb (by simp)).and (upd_grown hg20) (fun x hx => Or.inr (by have := own_lt' hrow19 x (by simpa using hx); omega)); clear n19 x19)
                                | ((with_reducible refine at_store 52 ?_); refine wpList_put rfl 52 _ _ rfl hob20 rfl (.slice px pm pc) rfl rfl (by kernel_rfl) (by simp) ?_; intro w21 hob21 hU21 hs21; have hN21 := hN20.upd hU21 (by simp; omega); have hq21 := hq20.keep O hU21 (by simp; omega); have n21 := hN21.get 0 rfl)
                                | ((with_reducible refine at_store 55 ?_); refine wpList_put rfl 55 _ _ rfl hN21 rfl (.int .u64 (q : Int)) rfl rfl (by kernel_rfl) (by simp) ?_; intro w22 hN22 hU22 hs22))
                              have hq22 := hq21.keep O hU22 (by simp; omega)
                              have hob22 := hob21.upd hU22 (by simp; omega)
                              have hrow22 := own_keep (own_keep ho20 hU21 (by simp; omega)) hU22 (by simp; omega)
                              have hUe : Upd [bb, ob, nb] w17 w22 := (hU20.and hU21 (by simp)).and hU22 (by simp)
                              simp only [Act.put]
                              go_big_round
                              refine ⟨⟨q, df, ns ++ [X], _, hq22, hbf, hN22, hob22, ?_, ?_, hUe, ⟨by have := hcnti.out; simp; omega⟩, hTn⟩, ?_⟩
                              · rw [List.length_append, u64s_append]; exact hrow22
                              · intro x hx
                                rcases List.mem_append.1 hx with h | h
                                · exact hns64 x h
                                · rw [List.mem_singleton.1 h]; exact hX64
                              · rw [cellNat_of hN22, cellNat_of hNi]; omega
                          · obtain rfl : m = 0 := by omega
                            have hT0 : takes 18446744073709551615 5 M d4 = .ok (ns, de) := by rw [hTi.out]; simp [takes, bnd_ok]
                            have hop : Held (opP dr = if chk (kk : Nat) ns = 0 then .ok ((kk, ns), de) else .error (chk (kk : Nat) ns)) := ⟨by rw [hOP.out, hT0, bnd_ok]⟩
                            have hebi : eb < wr.heap.size := by obtain ⟨x, h⟩ := hqi.e; exact h.lt
                            have hbord : bb < nb ∧ bb < ob ∧ bb < eb ∧ nb < w17.heap.size ∧ eb < w17.heap.size ∧ ob < w17.heap.size := by have := O.r; have := O.h; have := O.a; have := O.l; have := O.e; have := hs17.out; have := hob.out; omega
                            have hUw : Upd [bb] _ wr := hUa.and hUi (by intro y hy; simp at hy; rcases hy with rfl | rfl | rfl; exact Or.inl (by simp); exact Or.inr (by omega); exact Or.inr (by omega))
                            obtain ⟨nx, nm, nc, rfl⟩ := own_slice hrowi
                            clear hT0 hTi hm
                            go_wp2_with ((with_reducible refine at_load 68 ?_); refine wpList_load_all rfl 68 _ rfl hBi rfl 2 _ Try.underlying68 rfl op_size rfl ?_)
                            refine (op_check K _ ns _ (vec_of_own hrowi) hns64).mono ?_
                            rintro e w23 ⟨rfl, hu23⟩
                            have hq23 := hqi.keep O hu23 (by simp)
                            have hB23 := hBi.upd hu23 (by simp)
                            have hUw3 := hUw.and hu23 (by simp)
                            have hrow23 := own_keep hrowi hu23 (by simp)
                            obtain ⟨ev, hE23⟩ := hq23.e
                            clear n0 hqi hBi hu23
                            by_cases hck : chk K ns = 0
                            · have hck2 : chk (kk : Nat) ns = 0 := by rw [← (hKc.out ns).1]; exact hck
                              have hKk := Held.mk ((hKc.out ns).2 hck2)
                              have hop2 : Held (opP dr = .ok ((kk, ns), de)) := ⟨by rw [hop.out, if_pos hck2]⟩
                              rw [hck]
                              clear hck hck2
                              have hpsz : eb + 1 ≤ w23.heap.size := hE23.lt
                              have hcn : Held ((acc.length + 1) * (32 + 1) ≤ 140737488355328) := ⟨by have := hcnt.out; omega⟩
                              have hone : ∀ u ∈ (Value.agg #[.int .i64 K, .slice nx nm nc]).cells.toList, u.oneCell' = true := by intro u hu; simp [Value.cells] at hu; rcases hu with rfl | rfl <;> rfl
                              have hrowW := own_keep hrow hUw3 (by simp; omega)
                              go_wp2_with (first
                                | ((with_reducible refine at_store 26 ?_); refine wpList_put rfl 26 _ _ rfl hE23 rfl (.int .i64 0) rfl rfl (by kernel_rfl) (by simp) ?_; intro w24 hE24 hU24 hs24; have hq24 := hq23.setE O hE24 hU24; have e24 := hE24.get 0 rfl; have hB24 := hB23.upd hU24 (by simp; omega); have hrow24 := own_keep hrow23 hU24 (by simp; omega); have hrowX := own_keep hrowW hU24 (by intro y hy; simp at hy; omega); have hpsz4 : eb + 1 ≤ w24.heap.size := Nat.le_trans hpsz hU24.size)
                                | ((with_reducible refine at_load 68 ?_); refine wpList_load_all rfl 68 _ rfl hB24 rfl 2 _ Try.underlying68 rfl op_size rfl ?_)
                                | ((with_reducible refine at_push ?_); refine wpList_push (eb + 1) 68 info_op Try.underlying65 rfl (by decide) (by decide) (.agg #[.int .i64 K, .slice nx nm nc]) rfl rfl hone hrowX rfl rfl hpsz4 hcn.out ?_; intro v25 w25 ho25 hg25; have hq25 := hq24.keep O (upd_grown hg25) (fun x hx => by have := own_lt' hrowX x (by simpa using hx); omega); have l25 := hq25.l.get 0 rfl; have hL25 := hq25.l; have hrow25 := own_grown hrow24 hrowX hg25 (by decide))
                                | ((with_reducible refine at_store 55 ?_); refine wpList_put rfl 55 _ _ rfl hL25 rfl (.int .u64 (pL : Int)) rfl rfl (by kernel_rfl) (by simp) ?_; intro w26 hL26 hU26 hs26))
                              simp only [Act.put]
                              go_big_round
                              have hq26 := hq25.setL O hL26 hU26
                              refine ⟨⟨pL, de, acc ++ [⟨K, ns, .slice nx nm nc⟩], hq26, hbi, ?_, ?_, ⟨by have := hcnt.out; simp; omega⟩, ⟨?_⟩, ⟨?_⟩⟩, ?_⟩
                              · rw [List.length_append, opCells_append]
                                exact own_keep ho25 hU26 (by intro y hy; simp at hy; have := O.e; omega)
                              · intro o ho
                                rcases List.mem_append.1 ho with h | h
                                · have h1 := ((hops o h).keep hUw3 (by intro y hy; simp at hy; omega)).keep hU24 (by intro y hy; simp at hy; omega)
                                  exact ⟨own_keep (own_grown h1.row hrowX hg25 (by decide)) hU26 (by intro y hy; simp at hy; have := O.e; omega), h1.w64⟩
                                · rw [List.mem_singleton.1 h]
                                  exact ⟨own_keep (own_base hrow25 (by omega)) hU26 (by intro y hy; simp at hy; have := O.e; omega), hns64⟩
                              · rw [hO.out, hstep.out, hop2.out, bnd_ok, bnd_bnd]
                                simp only [bnd_ok]
                                congr 1
                                funext y
                                simp [hKk.out]
                              · intro o ho
                                rcases List.mem_append.1 ho with h | h
                                · exact hk0.out o h
                                · rw [List.mem_singleton.1 h, hKk.out]; exact Int.natCast_nonneg _
                              · rw [cellNat_of hL26, cellNat_of hqr.l]; omega
                            · have hck2 : chk (kk : Nat) ns ≠ 0 := by rw [← (hKc.out ns).1]; exact hck
                              have hbad' : Held (parseP d = .error (chk K ns)) := ⟨herr.out _ (by rw [hop.out, if_neg hck2, (hKc.out ns).1])⟩
                              have hck' : ¬ ((chk K ns : Nat) : Int) = 0 := by omega
                              clear hck2 hop
                              go_wp2_with (first
                                | ((with_reducible refine at_store 26 ?_); refine wpList_put rfl 26 _ _ rfl hE23 rfl (.int .i64 (chk K ns : Nat)) rfl rfl (by kernel_rfl) (by simp) ?_; intro w24 hE24 hU24 hs24; have hPE := hq23.err O (err := chk K ns) hck hE24 hU24; have e24 := hE24.get 0 rfl)
                                | go_step3)
                              exact ⟨rfl, parseJ_intro _ rr eb (by kernel_rfl) (by have := O.h; have := O.a; have := O.l; have := O.e; omega) (by have := O.b; have := O.r; omega) (chk K ns) hbad'.out hPE.nz hPE.r hPE.e hPE.u⟩
                · obtain rfl : L = 0 := by omega
                  have hP5 : Held (parseP d = if dr ≠ [] then .error 3 else .ok ([x0, x1, x2, x3, x4], acc.map fun o => (o.k.toNat, o.ns))) := ⟨by rw [hP4.out, hO.out]; simp [opsP, bnd_ok]⟩
                  obtain ⟨ev, hEr⟩ := hqr.e
                  obtain ⟨vb, hBr, hVr⟩ := hqr.b
                  obtain ⟨ra, rc, rfl, _, _, _⟩ := id hVr
                  have hHr := hqr.h
                  have hRr := hqr.r
                  have b0 := hBr.get 0 rfl
                  have hord : rr ≠ eb ∧ bb ≠ eb ∧ hh ≠ eb ∧ hh ≠ rr ∧ w.heap.size ≤ rr := by have := O.b; have := O.r; have := O.h; have := O.a; have := O.l; have := O.e; omega
                  obtain ⟨no1, no2, no3, no4, no5⟩ := hord
                  by_cases hdr : dr = []
                  · subst hdr
                    have hok' : Held (parseP d = .ok ([x0, x1, x2, x3, x4], acc.map fun o => (o.k.toNat, o.ns))) := ⟨by rw [hP5.out]; simp⟩
                    clear hP5 hP4 hO
                    go_wp2_with (first
                      | ((with_reducible refine at_store 26 ?_); refine wpList_put rfl 26 _ _ rfl hEr rfl (.int .i64 3) rfl rfl (by kernel_rfl) (by simp) ?_; intro w30 hE30 hU30 hs30; have hB30 := hBr.upd hU30 (by simp; omega); have b30 := hB30.get 0 rfl; have hH30 := hHr.upd hU30 (by simp; omega); have hR30 := hRr.upd hU30 (by simp; omega))
                      | ((with_reducible refine at_load 64 ?_); refine wpList_load_all rfl 64 _ rfl hH30 rfl 5 _ Try.underlying64 rfl head_size rfl ?_)
                      | ((with_reducible refine at_store 64 ?_); refine wpList_store_all rfl 64 _ _ rfl hR30 rfl (hdOf [x0, x1, x2, x3, x4]).cells rfl 5 head_size rfl rfl (by simp [Hd.cells, Value.oneCell']) ?_; intro w31 hR31 hU31 hs31))
                    change bodyPost _ _ _ Exit.ret _ _
                    refine bodyPost_ret (results_blk_tmp2 rfl _ hR31 rfl Try.underlying64 rfl head_size rfl) rfl ⟨?_, Or.inr ⟨_, _, hok'.out, _, acc, rfl, ?_, ?_, ?_⟩⟩
                    · exact (hqr.u.and hU30 (by intro y hy; simp at hy; have := O.b; have := O.r; have := O.h; have := O.a; have := O.l; have := O.e; exact Or.inr (by omega))).and hU31 (by intro y hy; simp at hy; exact Or.inr (by omega))
                    · exact vec_of_own (own_keep (own_keep hrow hU30 (by intro y hy; simp at hy; omega)) hU31 (by intro y hy; simp at hy; have := O.r; have := O.h; have := O.a; have := O.l; have := O.e; omega))
                    · intro o ho
                      exact (((hops o ho).keep hU30 (by intro y hy; simp at hy; omega)).keep hU31 (by intro y hy; simp at hy; have := O.r; have := O.h; have := O.a; have := O.l; have := O.e; omega)).ok
                    · rw [List.map_map]
                      refine List.map_congr_left fun o ho => ?_
                      have := hk0.out o ho
                      simp only [Function.comp, Int.toNat_of_nonneg this]
                  · have hbad' : Held (parseP d = .error 3) := ⟨by rw [hP5.out, if_pos hdr]⟩
                    have hdl : (0 : Int) < dr.length := by have := List.length_pos_iff.2 hdr; omega
                    clear hP5 hP4 hO
                    go_wp2_with (first
                      | ((with_reducible refine at_store 26 ?_); refine wpList_put rfl 26 _ _ rfl hEr rfl (.int .i64 3) rfl rfl (by kernel_rfl) (by simp) ?_; intro w30 hE30 hU30 hs30; have hB30 := hBr.upd hU30 (by simp; omega); have b30 := hB30.get 0 rfl; have hPE := hqr.err O (err := 3) (by decide) hE30 hU30)
                      | go_step3)
                    exact ⟨rfl, parseJ_intro _ rr eb (by kernel_rfl) (by have := O.h; have := O.a; have := O.l; have := O.e; omega) (by have := O.b; have := O.r; omega) 3 hbad'.out hPE.nz hPE.r hPE.e hPE.u⟩
          · have h5 : headChk x0 x1 x2 x3 x4 = 5 := by
              unfold headChk at hc ⊢
              split
              · rename_i h; rw [if_pos h] at hc; exact absurd rfl hc
              · rfl
            have hbad' : Held (parseP d = .error 5) := ⟨by rw [hP2.out, if_pos hc]⟩
            rw [h5]
            clear hc h5 hP2
            go_wp2_with (first
              | ((with_reducible refine at_store 26 ?_); refine wpList_put rfl 26 _ _ rfl hE10 rfl (.int .i64 5) rfl rfl (by kernel_rfl) (by simp) ?_; intro w11 hE11 hU11 hs11; have hPE := hq10.err O (err := 5) (by decide) hE11 hU11; have e0 := hE11.get 0 rfl)
              | go_step3)
            exact ⟨rfl, parseJ_intro _ rr eb (by kernel_rfl) (by have := O.h; have := O.a; have := O.l; have := O.e; omega) (by have := O.b; have := O.r; omega) 5 hbad'.out hPE.nz hPE.r hPE.e hPE.u⟩
end Go.Proofs.Ytdmdnijgjgjmkaa
