/- The statement RstcPlays: the walk. -/
import Derived.Test.YtdmdnijgjgjmkaaProg
import Derived.Test.YtdmdnijgjgjmkaaBase
import Derived.Test.YtdmdnijgjgjmkaaLaw09b
namespace Go.Proofs.Ytdmdnijgjgjmkaa
open Go.RowKit

/-- Acts that came in: where they lie, and that their numbers fit. -/
structure Acts (w : World) (lb lo n : Nat) (kd ca off v : Nat → Int) : Prop where
  lt : lb < w.heap.size
  hkd : ∀ i, i < n → w.cell? ⟨lb, lo + i * 4, none⟩ = some (.int .i64 (kd i))
  hca : ∀ i, i < n → w.cell? ⟨lb, lo + i * 4 + 1, none⟩ = some (.int .i64 (ca i))
  hoff : ∀ i, i < n → w.cell? ⟨lb, lo + i * 4 + 2, none⟩ = some (.int .u32 (off i))
  hv : ∀ i, i < n → w.cell? ⟨lb, lo + i * 4 + 3, none⟩ = some (.int .u32 (v i))
  hoff0 : ∀ i, i < n → 0 ≤ off i ∧ off i < 4294967296
  hv0 : ∀ i, i < n → 0 ≤ v i ∧ v i < 4294967296

set_option maxRecDepth 100000 in
set_option maxHeartbeats 1000000 in
theorem l09_plays (lb lo n cap : Nat) (kd ca off v : Nat → Int) (w : World) (hA : Acts w lb lo n kd ca off v) (hn : n ≤ 9223372036854775807) :
    Calls Try.prog 4 #[.slice (some ⟨lb, lo, none⟩) n cap] w fun e w' => e = .returned (.bool true) ∧ Upd [] w w' := by
  go_enter Try.func4, Try.ntmps4
  go_wp2_with fail
  refine (rstc_new _).mono ?_
  rintro e w1 ⟨b0, rfl, hb0, hB1, hu1⟩
  go_wp2_with fail
  refine (r09_new _).mono ?_
  rintro e w2 ⟨rfl, hu2⟩
  have hB2 := hB1.upd hu2 (by simp)
  have hU2 := hu1.trans hu2
  clear hu1 hu2 hB1
  go_wp2_with (refine wpList_store_all rfl 37 _ _ rfl (T := 37) (cs := RR.zero.cells) ?_ rfl _ rfl 35 r09_size (RR.len _) (RR.len _) (RR.one _) ?_; exact Blk.at (cs := RR.zero.cells) rfl; intro w3 hM hu3 hs3)
  have hB3 := (hB2.alloc (.cells RR.zero.cells.toArray 37)).upd hu3 (by have := hB2.lt; simp; omega)
  have hU3 : Upd [] w w3 := (hU2.alloc _).and hu3 (by have := hU2.size; simp; omega)
  have hbM : b0 ≠ w2.heap.size := by have := hB2.lt; omega
  have hwM : w.heap.size ≤ w2.heap.size := hU2.size
  clear hu3 hs3 hB2 hU2
  generalize w2.heap.size = M at *
  go_wp2_with fail
  go_loopw [3, 5] (fun p i wr => ∃ (k b : Nat) (s : RS) (r : RR), k ≤ n ∧ k ≤ 60 ∧ p = .pointer (some ⟨b, 0, none⟩) ∧ i = .int .i64 k ∧ Blk wr b 92 s.cells ∧ Blk wr M 37 r.cells ∧ Same09 s r ∧ w.heap.size ≤ b ∧ b ≠ M ∧ Upd [] w wr) (fun _ i _ => 60 - (intOf i).toNat)
  case atStart => exact ⟨0, b0, RS.init, RR.init, by omega, by omega, rfl, rfl, hB3, hM, same_init, hb0, hbM, hU3⟩
  case round =>
    clear hB3 hM hU3 hb0 hbM
    obtain ⟨k, b, s, r, hk, hk60, rfl, rfl, hB, hM, hS, hb, hbM, hU⟩ := hrel
    by_cases hgo : k < n ∧ k < 60
    · obtain ⟨hlt, hlt60⟩ := hgo
      have hl := hA.lt
      have c0 := (hU.cell (a := ⟨lb, lo + k * 4, none⟩) hl (by simp)).trans (hA.hkd k hlt)
      have c1 := (hU.cell (a := ⟨lb, lo + k * 4 + 1, none⟩) hl (by simp)).trans (hA.hca k hlt)
      have c2 := (hU.cell (a := ⟨lb, lo + k * 4 + 2, none⟩) hl (by simp)).trans (hA.hoff k hlt)
      have c3 := (hU.cell (a := ⟨lb, lo + k * 4 + 3, none⟩) hl (by simp)).trans (hA.hv k hlt)
      have o0 := hA.hoff0 k hlt
      have v0 := hA.hv0 k hlt
      have HA := hA
      clear hA
      generalize kd k = q at c0
      generalize ca k = c at c1
      generalize off k = o at c2 o0
      generalize v k = x at c3 v0
      obtain ⟨o0, o1⟩ := o0
      obtain ⟨v0, v1⟩ := v0
      by_cases q0 : q = 0
      · subst q0
        have hal := hB.lt
        have hml := hM.lt
        have hA4 := Blk.new wr 40 [.int .i64 0, .int .i64 c, .int .u32 o, .int .u32 x]
        have hB4 := hB.alloc (.cells #[.int .i64 0, .int .i64 c, .int .u32 o, .int .u32 x] 40)
        have hM4 := hM.alloc (.cells #[.int .i64 0, .int .i64 c, .int .u32 o, .int .u32 x] 40)
        have hU4 := hU.alloc (.cells #[.int .i64 0, .int .i64 c, .int .u32 o, .int .u32 x] 40)
        go_wp2_with (refine wpList_load_all ?_ 37 (.tmp 4) rfl (T := 37) (cs := r.cells) ?_ rfl 35 _ Try.underlying37 rfl r09_size (RR.len _) ?_; rfl; exact hM4)
        refine (r09_latch r c _).mono ?_
        rintro e w4 ⟨rfl, hu4⟩
        have hA5 := hA4.upd hu4 (by simp)
        have hB5 := hB4.upd hu4 (by simp)
        have hM5 := hM4.upd hu4 (by simp)
        have hU5 := hU4.trans hu4
        have la5 := hA5.lt
        have lb5 := hB5.lt
        have lm5 := hM5.lt
        have lw5 := hU5.size
        clear hA4 hB4 hM4 hU4 hu4
        go_wp2_with (first | (refine wpList_store_all ?_ 37 (.tmp 7) _ rfl (T := 37) (cs := RR.zero.cells) ?_ rfl _ rfl 35 r09_size (RR.len _) (RR.len _) (RR.one _) ?_; rfl; exact Blk.at (cs := RR.zero.cells) rfl; intro w5 h7 hu5 hs5; have hA6 := (hA5.alloc (.cells RR.zero.cells.toArray 37)).upd hu5 (by simp; omega); have hB6 := (hB5.alloc (.cells RR.zero.cells.toArray 37)).upd hu5 (by simp; omega); have hM6 := (hM5.alloc (.cells RR.zero.cells.toArray 37)).upd hu5 (by simp; omega); have hU6 := (hU5.alloc (.cells RR.zero.cells.toArray 37)).and hu5 (by simp; omega)) | (refine wpList_load_all ?_ 37 (.tmp 7) rfl (T := 37) (cs := (r.latch c).cells) ?_ rfl 35 _ Try.underlying37 rfl r09_size (RR.len _) ?_; rfl; exact h7) | (refine wpList_store_all ?_ 37 (.tmp 4) _ rfl (T := 37) (cs := r.cells) ?_ rfl _ rfl 35 r09_size (RR.len _) (RR.len _) (RR.one _) ?_; rfl; exact hM6; intro w6 hM7 hu6 hs6; have hA7 := hA6.upd hu6 (by simp; omega); have hc7 := hA7.cell; have hB7 := hB6.upd hu6 (by simp; exact hbM); have hU7 := hU6.and hu6 (by simp; omega)))
        by_cases hc : isCause c = true
        · refine (rstc_latch_yes b c _ s hB7 (by simpa [isCause] using hc)).mono ?_
          rintro e w8 ⟨rfl, hB8, hu8⟩
          have hM8 := hM7.upd hu8 (by simp; exact fun h => hbM h.symm)
          have hU8 := hU7.and hu8 (by simp; omega)
          have hS8 := same_latch hS c hc
          rw [hc]
          go_wp2_with (refine wpList_load_all ?_ 37 (.tmp 4) rfl (T := 37) (cs := (r.latch c).cells) ?_ rfl 35 _ Try.underlying37 rfl r09_size (RR.len _) ?_; rfl; exact hM8)
          refine (l09_alike b _ _ _ hB8 hS8).mono ?_
          rintro e w9 ⟨rfl, hu9⟩
          go_wp2_with fail
          go_roundw
          case rel => exact ⟨k + 1, b, s.latch c, r.latch c, by omega, by omega, rfl, by go_num, hB8.upd hu9 (by simp), hM8.upd hu9 (by simp), hS8, hb, hbM, (hU8).trans hu9⟩
          case measure => simp [intOf]; omega
        · have hc' : isCause c = false := by simpa using hc
          have hn : c ≠ 2 ∧ c ≠ 4 ∧ c ≠ 8 ∧ c ≠ 16 := by simpa [isCause, not_or] using hc
          have hr : r.latch c = r := by simp [RR.latch, hn.1, hn.2.1, hn.2.2.1, hn.2.2.2]
          rw [hr] at hM7
          refine (rstc_latch_no _ c _ (Or.inr ⟨b, rfl⟩) hn.1 hn.2.1 hn.2.2.1 hn.2.2.2).mono ?_
          rintro e w8 ⟨rfl, rfl⟩
          rw [hc']
          clear hr hc hc' hn
          go_wp2_with (refine wpList_load_all ?_ 37 (.tmp 4) rfl (T := 37) (cs := (r).cells) ?_ rfl 35 _ Try.underlying37 rfl r09_size (RR.len _) ?_; rfl; exact hM7)
          refine (l09_alike b _ _ _ hB7 hS).mono ?_
          rintro e w9 ⟨rfl, hu9⟩
          go_wp2_with fail
          go_roundw
          case rel => exact ⟨k + 1, b, s, r, by omega, by omega, rfl, by go_num, hB7.upd hu9 (by simp), hM7.upd hu9 (by simp), hS, hb, hbM, (hU7).trans hu9⟩
          case measure => simp [intOf]; omega
      by_cases q1 : q = 1
      · subst q1
        have hal := hB.lt
        have hml := hM.lt
        have hA4 := Blk.new wr 40 [.int .i64 1, .int .i64 c, .int .u32 o, .int .u32 x]
        have hB4 := hB.alloc (.cells #[.int .i64 1, .int .i64 c, .int .u32 o, .int .u32 x] 40)
        have hM4 := hM.alloc (.cells #[.int .i64 1, .int .i64 c, .int .u32 o, .int .u32 x] 40)
        have hU4 := hU.alloc (.cells #[.int .i64 1, .int .i64 c, .int .u32 o, .int .u32 x] 40)
        go_wp2_with (refine wpList_load_all ?_ 37 (.tmp 4) rfl (T := 37) (cs := r.cells) ?_ rfl 35 _ Try.underlying37 rfl r09_size (RR.len _) ?_; rfl; exact hM4)
        refine (r09_load r o _ o0 o1).mono ?_
        rintro e w4 ⟨rfl, hu4⟩
        have hA5 := hA4.upd hu4 (by simp)
        have hB5 := hB4.upd hu4 (by simp)
        have hM5 := hM4.upd hu4 (by simp)
        have hU5 := hU4.trans hu4
        have la5 := hA5.lt
        have lb5 := hB5.lt
        have lm5 := hM5.lt
        have lw5 := hU5.size
        clear hA4 hB4 hM4 hU4 hu4
        have hc5 := hA5.cell
        rw [← same_load hS o]
        go_wp2_with fail
        refine (rstc_load b o _ s hB5 o0 o1).mono ?_
        rintro e w8 ⟨rfl, rfl⟩
        generalize s.load o = y
        go_wp2_with (refine wpList_load_all ?_ 37 (.tmp 4) rfl (T := 37) (cs := (r).cells) ?_ rfl 35 _ Try.underlying37 rfl r09_size (RR.len _) ?_; rfl; exact hM5)
        refine (l09_alike b _ _ _ hB5 hS).mono ?_
        rintro e w9 ⟨rfl, hu9⟩
        go_wp2_with fail
        go_roundw
        case rel => exact ⟨k + 1, b, s, r, by omega, by omega, rfl, by go_num, hB5.upd hu9 (by simp), hM5.upd hu9 (by simp), hS, hb, hbM, (hU5).trans hu9⟩
        case measure => simp [intOf]; omega
      by_cases q2 : q = 2
      · subst q2
        have hal := hB.lt
        have hml := hM.lt
        have hA4 := Blk.new wr 40 [.int .i64 2, .int .i64 c, .int .u32 o, .int .u32 x]
        have hB4 := hB.alloc (.cells #[.int .i64 2, .int .i64 c, .int .u32 o, .int .u32 x] 40)
        have hM4 := hM.alloc (.cells #[.int .i64 2, .int .i64 c, .int .u32 o, .int .u32 x] 40)
        have hU4 := hU.alloc (.cells #[.int .i64 2, .int .i64 c, .int .u32 o, .int .u32 x] 40)
        go_wp2_with (refine wpList_load_all ?_ 37 (.tmp 4) rfl (T := 37) (cs := r.cells) ?_ rfl 35 _ Try.underlying37 rfl r09_size (RR.len _) ?_; rfl; exact hM4)
        refine (r09_store r o x _ o0 o1 v0 v1).mono ?_
        rintro e w4 ⟨rfl, hu4⟩
        have hA5 := hA4.upd hu4 (by simp)
        have hB5 := hB4.upd hu4 (by simp)
        have hM5 := hM4.upd hu4 (by simp)
        have hU5 := hU4.trans hu4
        have la5 := hA5.lt
        have lb5 := hB5.lt
        have lm5 := hM5.lt
        have lw5 := hU5.size
        clear hA4 hB4 hM4 hU4 hu4
        have hS9 := (same_store hS o x v0 v1).1
        have hE : Hid ((s.store o x).2 = (r.store o x).2) := (same_store hS o x v0 v1).2
        go_wp2_with (first | (refine wpList_store_all ?_ 37 (.tmp 13) _ rfl (T := 37) (cs := RR.zero.cells) ?_ rfl _ rfl 35 r09_size (RR.len _) (RR.len _) (RR.one _) ?_; rfl; exact Blk.at (cs := RR.zero.cells) rfl; intro w5 h7 hu5 hs5; have hA6 := (hA5.alloc (.cells RR.zero.cells.toArray 37)).upd hu5 (by simp; omega); have hB6 := (hB5.alloc (.cells RR.zero.cells.toArray 37)).upd hu5 (by simp; omega); have hM6 := (hM5.alloc (.cells RR.zero.cells.toArray 37)).upd hu5 (by simp; omega); have hU6 := (hU5.alloc (.cells RR.zero.cells.toArray 37)).and hu5 (by simp; omega)) | (refine wpList_load_all ?_ 37 (.tmp 13) rfl (T := 37) (cs := (r.store o x).1.cells) ?_ rfl 35 _ Try.underlying37 rfl r09_size (RR.len _) ?_; rfl; exact h7) | (refine wpList_store_all ?_ 37 (.tmp 4) _ rfl (T := 37) (cs := r.cells) ?_ rfl _ rfl 35 r09_size (RR.len _) (RR.len _) (RR.one _) ?_; rfl; exact hM6; intro w6 hM7 hu6 hs6; have hA7 := hA6.upd hu6 (by simp; omega); have hc7 := hA7.cell; have hB7 := hB6.upd hu6 (by simp; exact hbM); have hU7 := hU6.and hu6 (by simp; omega)))
        refine (rstc_store b o x _ s hB7 o0 o1).mono ?_
        rintro e w8 ⟨rfl, hB8, hu8⟩
        have hM8 := hM7.upd hu8 (by simp; exact fun h => hbM h.symm)
        have hU8 := hU7.and hu8 (by simp; omega)
        rw [hE.out]
        clear hE
        generalize (r.store o x).2 = y at *
        generalize (s.store o x).1 = s' at *
        generalize (r.store o x).1 = r' at *
        go_wp2_with (refine wpList_load_all ?_ 37 (.tmp 4) rfl (T := 37) (cs := (r').cells) ?_ rfl 35 _ Try.underlying37 rfl r09_size (RR.len _) ?_; rfl; exact hM8)
        refine (l09_alike b _ _ _ hB8 hS9).mono ?_
        rintro e w9 ⟨rfl, hu9⟩
        go_wp2_with fail
        go_roundw
        case rel => exact ⟨k + 1, b, s', r', by omega, by omega, rfl, by go_num, hB8.upd hu9 (by simp), hM8.upd hu9 (by simp), hS9, hb, hbM, (hU8).trans hu9⟩
        case measure => simp [intOf]; omega
      by_cases q3 : q = 3
      · subst q3
        have hal := hB.lt
        have hml := hM.lt
        have hA4 := Blk.new wr 40 [.int .i64 3, .int .i64 c, .int .u32 o, .int .u32 x]
        have hB4 := hB.alloc (.cells #[.int .i64 3, .int .i64 c, .int .u32 o, .int .u32 x] 40)
        have hM4 := hM.alloc (.cells #[.int .i64 3, .int .i64 c, .int .u32 o, .int .u32 x] 40)
        have hU4 := hU.alloc (.cells #[.int .i64 3, .int .i64 c, .int .u32 o, .int .u32 x] 40)
        have hlw := hU4.size
        go_wp2_with fail
        refine (rstc_copy b _ s hB4).mono ?_
        rintro e w4 ⟨rfl, hC5, hu4⟩
        have hB5 := hB4.upd hu4 (by simp)
        have hM5 := hM4.upd hu4 (by simp)
        have hU5 := hU4.trans hu4
        have hbC : (wr.alloc (.cells #[.int .i64 3, .int .i64 c, .int .u32 o, .int .u32 x] 40)).heap.size ≠ M := by simp; omega
        have hbB : (wr.alloc (.cells #[.int .i64 3, .int .i64 c, .int .u32 o, .int .u32 x] 40)).heap.size ≠ b := by simp; omega
        have hbW : w.heap.size ≤ (wr.alloc (.cells #[.int .i64 3, .int .i64 c, .int .u32 o, .int .u32 x] 40)).heap.size := hlw
        generalize (wr.alloc (.cells #[.int .i64 3, .int .i64 c, .int .u32 o, .int .u32 x] 40)).heap.size = C at *
        clear hA4 hB4 hM4 hU4 hu4
        go_wp2_with (refine wpList_load_all ?_ 37 (.tmp 4) rfl (T := 37) (cs := r.cells) ?_ rfl 35 _ Try.underlying37 rfl r09_size (RR.len _) ?_; rfl; exact hM5)
        refine (l09_alike C _ _ _ hC5 hS).mono ?_
        rintro e w6 ⟨rfl, hu6⟩
        have hB6 := hB5.upd hu6 (by simp)
        have hM6 := hM5.upd hu6 (by simp)
        have hC6 := hC5.upd hu6 (by simp)
        have hU6 := hU5.trans hu6
        clear hB5 hM5 hC5 hU5 hu6
        go_wp2_with fail
        refine (rstc_latch_yes b 16 _ s hB6 (by omega)).mono ?_
        rintro e w7 ⟨rfl, hB7, hu7⟩
        have hM7 := hM6.upd hu7 (by simp; exact fun h => hbM h.symm)
        have hC7 := hC6.upd hu7 (by simp; exact hbB)
        have hU7 := hU6.and hu7 (by simp; omega)
        clear hB6 hM6 hC6 hU6 hu7
        go_wp2_with fail
        refine (rstc_store b 0 4294967295 _ _ hB7 (by omega) (by omega)).mono ?_
        rintro e w8 ⟨rfl, hB8, hu8⟩
        have hM8 := hM7.upd hu8 (by simp; exact fun h => hbM h.symm)
        have hC8 := hC7.upd hu8 (by simp; exact hbB)
        have hU8 := hU7.and hu8 (by simp; omega)
        clear hB7 hM7 hC7 hU7 hu8 hB8
        go_wp2_with (refine wpList_load_all ?_ 37 (.tmp 4) rfl (T := 37) (cs := (r).cells) ?_ rfl 35 _ Try.underlying37 rfl r09_size (RR.len _) ?_; rfl; exact hM8)
        refine (l09_alike C _ _ _ hC8 hS).mono ?_
        rintro e w9 ⟨rfl, hu9⟩
        go_wp2_with fail
        go_roundw
        case rel => exact ⟨k + 1, C, s, r, by omega, by omega, rfl, by go_num, hC8.upd hu9 (by simp), hM8.upd hu9 (by simp), hS, hbW, hbC, (hU8).trans hu9⟩
        case measure => simp [intOf]; omega
      have q0' : (q == 0) = false := by simpa using q0
      have q1' : (q == 1) = false := by simpa using q1
      have q2' : (q == 2) = false := by simpa using q2
      have q3' : (q == 3) = false := by simpa using q3
      clear q0 q1 q2 q3
      have hal := hB.lt
      have hml := hM.lt
      have hA4 := Blk.new wr 40 [.int .i64 q, .int .i64 c, .int .u32 o, .int .u32 x]
      have hB4 := hB.alloc (.cells #[.int .i64 q, .int .i64 c, .int .u32 o, .int .u32 x] 40)
      have hM4 := hM.alloc (.cells #[.int .i64 q, .int .i64 c, .int .u32 o, .int .u32 x] 40)
      have hU4 := hU.alloc (.cells #[.int .i64 q, .int .i64 c, .int .u32 o, .int .u32 x] 40)
      go_wp2_with (refine wpList_load_all ?_ 37 (.tmp 4) rfl (T := 37) (cs := (r).cells) ?_ rfl 35 _ Try.underlying37 rfl r09_size (RR.len _) ?_; rfl; exact hM4)
      refine (l09_alike b _ _ _ hB4 hS).mono ?_
      rintro e w9 ⟨rfl, hu9⟩
      go_wp2_with fail
      go_roundw
      case rel => exact ⟨k + 1, b, s, r, by omega, by omega, rfl, by go_num, hB4.upd hu9 (by simp), hM4.upd hu9 (by simp), hS, hb, hbM, (hU4).trans hu9⟩
      case measure => simp [intOf]; omega
    · have hno : n ≤ k ∨ (k < n ∧ 60 ≤ k) := by omega
      clear hgo hA
      rcases hno with hno | ⟨hlt, hno⟩
      all_goals
        go_wp2_with fail
        refine (l09_known _).mono ?_
        rintro e w4 ⟨rfl, hu4⟩
        go_wp2_with fail
        go_ret
        exact ⟨rfl, hU.trans hu4⟩

set_option maxRecDepth 100000 in
set_option maxHeartbeats 1000000 in
theorem l09_plays0 (a : Option Addr) (cap : Nat) (w : World) :
    Calls Try.prog 4 #[.slice a 0 cap] w fun e w' => e = .returned (.bool true) ∧ Upd [] w w' := by
  go_enter Try.func4, Try.ntmps4
  go_wp2_with fail
  refine (rstc_new _).mono ?_
  rintro e w1 ⟨b0, rfl, hb0, hB1, hu1⟩
  go_wp2_with fail
  refine (r09_new _).mono ?_
  rintro e w2 ⟨rfl, hu2⟩
  have hU2 := hu1.trans hu2
  clear hu1 hu2 hB1
  go_wp2_with (refine wpList_store_all rfl 37 _ _ rfl (T := 37) (cs := RR.zero.cells) ?_ rfl _ rfl 35 r09_size (RR.len _) (RR.len _) (RR.one _) ?_; exact Blk.at (cs := RR.zero.cells) rfl; intro w3 hM hu3 hs3)
  have hU3 : Upd [] w w3 := (hU2.alloc _).and hu3 (by have := hU2.size; simp; omega)
  clear hu3 hs3 hU2 hM
  generalize w2.heap.size = M at *
  go_wp2_with fail
  go_loopw [5] (fun i wr => i = .int .i64 0 ∧ Upd [] w wr) (fun _ _ => 0)
  case atStart => exact ⟨rfl, hU3⟩
  case round =>
    obtain ⟨rfl, hU⟩ := hrel
    go_wp2_with fail
    refine (l09_known _).mono ?_
    rintro e w4 ⟨rfl, hu4⟩
    go_wp2_with fail
    go_ret
    exact ⟨rfl, hU.trans hu4⟩

end Go.Proofs.Ytdmdnijgjgjmkaa
