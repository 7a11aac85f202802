/- Walks of the statements of layer 9: its known example, and the two that need no document's answer. -/
import Derived.Test.YtdmdnijgjgjmkaaProg
import Derived.Test.YtdmdnijgjgjmkaaBase
import Derived.Test.YtdmdnijgjgjmkaaRstc
namespace Go.Proofs.Ytdmdnijgjgjmkaa
open Go.RowKit

set_option maxHeartbeats 400000 in
theorem l09_known (w : World) :
    Calls Try.prog 17 #[] w fun e w' => e = .returned (.bool true) ∧ Upd [] w w' := by
  go_enter Try.func17, Try.ntmps17
  go_wp2_with fail
  refine (rstc_new _).mono ?_
  rintro e w1 ⟨b, rfl, hb, hB1, hu1⟩
  go_wp2_with fail
  refine (rstc_latch_yes b 2 _ _ hB1 (by omega)).mono ?_
  rintro e w2 ⟨rfl, hB2, hu2⟩
  go_wp2_with fail
  refine (rstc_cause b _ _ hB2 (by decide) (by decide)).mono ?_
  rintro e w3 ⟨rfl, hu3⟩
  have hB3 := hB2.upd hu3 (by simp)
  rw [show (RS.init.latch 2).c = 3 from by decide]
  go_wp2_with fail
  refine (rstc_last b _ _ hB3 (by decide) (by decide)).mono ?_
  rintro e w4 ⟨rfl, hu4⟩
  have hB4 := hB3.upd hu4 (by simp)
  rw [show (RS.init.latch 2).l = 2 from by decide]
  go_wp2_with fail
  refine (rstc_count b _ _ hB4).mono ?_
  rintro e w5 ⟨rfl, hu5⟩
  have hB5 := hB4.upd hu5 (by simp)
  rw [show (RS.init.latch 2).n = 1 from by decide]
  go_wp2_with fail
  refine (rstc_store b 0 1 _ _ hB5 (by omega) (by omega)).mono ?_
  rintro e w6 ⟨rfl, hB6, hu6⟩
  rw [show ((RS.init.latch 2).store 0 1).2 = 0 from by decide]
  go_wp2_with fail
  refine (rstc_cause b _ _ hB6 (by decide) (by decide)).mono ?_
  rintro e w7 ⟨rfl, hu7⟩
  rw [show ((RS.init.latch 2).store 0 1).1.c = 2 from by decide]
  go_wp2_with fail
  go_ret
  exact ⟨rfl, ((((((hu1.and hu2 (by simp [hb])).trans hu3).trans hu4).trans hu5).and hu6 (by simp [hb])).trans hu7)⟩

set_option maxHeartbeats 400000 in
theorem l09_nil (off v : Int) (w : World) :
    Calls Try.prog 5 #[.int .u32 off, .int .u32 v] w fun e w' => e = .returned (.bool true) ∧ Upd [] w w' := by
  go_enter Try.func5, Try.ntmps5
  go_wp2_with fail
  refine (rstc_load_nil _ _).mono ?_
  rintro e w1 ⟨rfl, rfl⟩
  go_wp2_with fail
  refine (l09_known _).mono ?_
  rintro e w2 ⟨rfl, hu2⟩
  go_wp2_with fail
  refine (rstc_latch_nil _ _).mono ?_
  rintro e w3 ⟨rfl, rfl⟩
  go_wp2_with fail
  refine (rstc_asked_nil _).mono ?_
  rintro e w4 ⟨rfl, hu4⟩
  go_wp2_with fail
  refine (rstc_cause_nil _).mono ?_
  rintro e w5 ⟨rfl, hu5⟩
  go_wp2_with fail
  refine (rstc_last_nil _).mono ?_
  rintro e w6 ⟨rfl, hu6⟩
  go_wp2_with fail
  refine (rstc_count_nil _).mono ?_
  rintro e w7 ⟨rfl, hu7⟩
  go_wp2_with fail
  refine (rstc_store_nil _ _ _).mono ?_
  rintro e w8 ⟨rfl, rfl⟩
  go_wp2_with fail
  refine (rstc_copy_nil _).mono ?_
  rintro e w9 ⟨rfl, rfl⟩
  go_wp2_with fail
  go_ret
  exact ⟨rfl, (((hu2.trans hu4).trans hu5).trans hu6).trans hu7⟩

theorem rstc_word_power (w : World) : Calls Try.prog 13 #[.int .i64 1] w fun e w' => e = .returned (.string ⟨#[112, 111, 119, 101, 114]⟩) ∧ w = w' := by
  go_enter Try.func13, Try.ntmps13
  go_wp2
  go_ret
  exact ⟨rfl, rfl⟩
theorem rstc_word_soft (w : World) : Calls Try.prog 13 #[.int .i64 16] w fun e w' => e = .returned (.string ⟨#[115, 111, 102, 116]⟩) ∧ w = w' := by
  go_enter Try.func13, Try.ntmps13
  go_wp2
  go_ret
  exact ⟨rfl, rfl⟩

theorem or_same (c o : Int) (h0 : 0 ≤ c) (h1 : c < 4294967296) (ho : o = 2 ∨ o = 4 ∨ o = 8 ∨ o = 16) : bits BinOp.or IntKind.i64 c o = bits BinOp.or IntKind.u32 c o ∧ 0 ≤ bits BinOp.or IntKind.u32 c o ∧ bits BinOp.or IntKind.u32 c o < 4294967296 := by
  obtain ⟨a, rfl⟩ := Int.eq_ofNat_of_zero_le h0
  obtain ⟨b, rfl⟩ := Int.eq_ofNat_of_zero_le (show 0 ≤ o by omega)
  have ha : a < 2 ^ 32 := by simp; omega
  have hb : b < 2 ^ 32 := by simp; omega
  have hw : ∀ n : Int, 0 ≤ n → n < 2 ^ 32 → IntKind.i64.wrap n = n := fun n g0 g1 => by rw [IntKind.wrap_i64]; omega
  have hw' : ∀ n : Int, 0 ≤ n → n < 2 ^ 32 → IntKind.u32.wrap n = n := fun n g0 g1 => by rw [IntKind.wrap_u32]; omega
  have e1 := (bits_nat .i64 32 (by decide) hw a b ha hb).2
  have e2 := (bits_nat .u32 32 (by decide) hw' a b ha hb).2
  have := Nat.or_lt_two_pow ha hb
  have h32 : (2 : Nat) ^ 32 = 4294967296 := rfl
  refine ⟨e1.trans e2.symm, ?_, ?_⟩ <;> rw [e2] <;> omega

theorem bits_u32 (op : BinOp) (x y : Int) : 0 ≤ bits op .u32 x y ∧ bits op .u32 x y < 4294967296 := by
  unfold bits
  rw [IntKind.wrap_u32]
  omega

/-- What the law's loop leaves of a state. -/
structure Fit (s : RS) (k : Nat) : Prop where
  c0 : 0 ≤ s.c
  c1 : s.c < 4294967296
  n0 : 0 ≤ s.n
  n1 : s.n ≤ k
theorem Fit.latch {s : RS} {k : Nat} (h : Fit s k) (hk : k ≤ 30) (o : Int) : Fit (s.latch o) (k + 1) := by
  have hb := bits_u32 .or s.c o
  have := h.n0; have := h.n1
  refine ⟨hb.1, hb.2, ?_, ?_⟩ <;> simp only [RS.latch] <;> split <;> omega

set_option maxHeartbeats 2000000 in
theorem l09_last (lb lo n cap : Nat) (zs : List Int) (cl : Int) (w : World) (hlb : lb < w.heap.size) (hcell : ∀ i, i < n → w.cell? ⟨lb, lo + i, none⟩ = some (.int .i64 (zs.getD i 0))) (hn : n ≤ 9223372036854775807) :
    Calls Try.prog 3 #[.slice (some ⟨lb, lo, none⟩) n cap, .int .u32 cl] w fun e w' => e = .returned (.bool true) ∧ Upd [] w w' := by
  go_enter Try.func3, Try.ntmps3
  go_wp2_with fail
  refine (rstc_new _).mono ?_
  rintro e w1 ⟨b, rfl, hb, hB1, hu1⟩
  go_wp2_with fail
  refine (rstc_store b 0 cl _ _ hB1 (by omega) (by omega)).mono ?_
  rintro e w2 ⟨rfl, hB2, hu2⟩
  have hF : Fit (RS.init.store 0 cl).1 0 := ⟨(bits_u32 .andNot 1 cl).1, (bits_u32 .andNot 1 cl).2, by simp [RS.store, RS.init], by simp [RS.store, RS.init]⟩
  have hN : (RS.init.store 0 cl).1.n = 0 := rfl
  generalize (RS.init.store 0 cl).1 = s0 at hB2 hF hN
  rw [show (RS.init.store 0 cl).2 = 0 from by simp [RS.store]]
  go_wp2_with fail
  refine (rstc_cause b _ _ hB2 hF.c0 hF.c1).mono ?_
  rintro e w3 ⟨rfl, hu3⟩
  have hB3 := hB2.upd hu3 (by simp)
  have hU3 : Upd [] w w3 := (hu1.and hu2 (by simp [hb])).trans hu3
  clear hB1 hB2 hu1 hu2 hu3
  go_wp2_with fail
  go_loopw [6, 7, 8] (fun set cnt i wr => ∃ (k : Nat) (s : RS), k ≤ n ∧ k ≤ 30 ∧ i = .int .i64 k ∧ set = .int .i64 s.c ∧ cnt = .int .u32 s.n ∧ Fit s k ∧ Blk wr b 92 s.cells ∧ Upd [] w wr) (fun _ _ i _ => 30 - (intOf i).toNat)
  case atStart => exact ⟨0, s0, by omega, by omega, rfl, rfl, by rw [hN], hF, hB3, hU3⟩
  case round =>
    clear hB3 hU3 hF hN
    obtain ⟨k, s, hk, hk30, rfl, rfl, rfl, hF, hB, hU⟩ := hrel
    by_cases hgo : k < n ∧ k < 30
    · obtain ⟨hlt, hlt30⟩ := hgo
      have hck : wr.cell? ⟨lb, lo + k, none⟩ = some (.int .i64 (zs.getD k 0)) := (hU.cell hlb (by simp)).trans (hcell k hlt)
      have hlbr : lb < wr.heap.size := Nat.lt_of_lt_of_le hlb hU.size
      clear hcell
      generalize zs.getD k 0 = o at hck
      by_cases hyes : o = 2 ∨ o = 4 ∨ o = 8 ∨ o = 16
      · have HY : Hid (o = 2 ∨ o = 4 ∨ o = 8 ∨ o = 16) := hyes
        have o0 : 0 ≤ o := by omega
        have o1 : o ≤ 16 := by omega
        clear hyes
        go_wp2_with fail
        refine (rstc_word_yes _ _ HY).mono ?_
        rintro e w' ⟨⟨sw, rfl, hsw, _⟩, rfl⟩
        go_wp2_with fail
        refine (rstc_latch_yes b o _ s hB HY).mono ?_
        rintro e w2 ⟨rfl, hB2, hu2⟩
        have hck2 : w2.cell? ⟨lb, lo + k, none⟩ = some (.int .i64 o) := (hu2.cell hlbr (by simp; omega)).trans hck
        have hlb2 : lb < w2.heap.size := Nat.lt_of_lt_of_le hlbr hu2.size
        have hF2 := hF.latch hk30 o
        have hor := or_same s.c o hF.c0 hF.c1 HY
        have hn2 : (s.latch o).n = s.n + 1 := by
          have := hF.n0; have := hF.n1
          simp only [RS.latch]
          rw [if_pos (by omega)]
          omega
        have HC : Hid ((s.latch o).c = bits BinOp.or IntKind.i64 s.c o) := hor.1.symm
        have HL : Hid ((s.latch o).l = o) := rfl
        have HN : Hid ((s.latch o).n = s.n + 1) := hn2
        have nb0 := hF.n0
        have nb1 := hF.n1
        clear hor hn2 hck
        have L1 : Hid (∀ wx, Upd [] w2 wx → Calls Try.prog 15 #[.pointer (some ⟨b, 0, none⟩)] wx fun e w' => e = .returned (.int .i64 o) ∧ Upd [] wx w') :=
          fun wx hx => HL.out ▸ rstc_last b wx _ (hB2.upd hx (by simp)) (by rw [HL.out]; omega) (by rw [HL.out]; omega)
        have L2 : Hid (∀ wx, Upd [] w2 wx → Calls Try.prog 16 #[.pointer (some ⟨b, 0, none⟩)] wx fun e w' => e = .returned (.int .u32 (s.n + 1)) ∧ Upd [] wx w') :=
          fun wx hx => HN.out ▸ rstc_count b wx _ (hB2.upd hx (by simp))
        have L3 : Hid (∀ wx, Upd [] w2 wx → Calls Try.prog 12 #[.pointer (some ⟨b, 0, none⟩)] wx fun e w' => e = .returned (.int .i64 (bits BinOp.or IntKind.i64 s.c o)) ∧ Upd [] wx w') :=
          fun wx hx => HC.out ▸ rstc_cause b wx _ (hB2.upd hx (by simp)) hF2.c0 hF2.c1
        go_wp2_with fail
        go_region_held3 (fun w' => (∀ a : Addr, a.block < w2.heap.size → w'.cell? a = w2.cell? a) ∧ Upd [] w2 w') (first | exact seen_drew _ | exact seen_next (by assumption) (by assumption)) (first | (go_at_call 15; refine (L1.out _ (And.right (by assumption))).mono ?_; rintro e w' ⟨rfl, hux⟩) | (go_at_call 16; refine (L2.out _ (And.right (by assumption))).mono ?_; rintro e w' ⟨rfl, hux⟩) | (go_at_call 12; refine (L3.out _ (And.right (by assumption))).mono ?_; rintro e w' ⟨rfl, hux⟩))
        go_wp2_with fail
        go_roundw
        case rel => exact ⟨k + 1, s.latch o, by omega, by omega, by go_num, by rw [HC.out], by rw [HN.out], hF2, hB2.upd (And.right (by assumption)) (by simp), (hU.and hu2 (by simp; omega)).trans (And.right (by assumption))⟩
        case measure => simp [intOf]; omega
      · have hp : (.pointer (some ⟨b, 0, none⟩) : Value) = .pointer none ∨ ∃ b', (.pointer (some ⟨b, 0, none⟩) : Value) = .pointer (some ⟨b', 0, none⟩) := Or.inr ⟨b, rfl⟩
        have HP := rstc_latch_no (.pointer (some ⟨b, 0, none⟩)) o wr hp (by omega) (by omega) (by omega) (by omega)
        have HH : Hid (Calls Try.prog 14 #[.pointer (some ⟨b, 0, none⟩), .int .i64 o] wr fun e w' => e = .returned (.bool false) ∧ wr = w') := HP
        clear HP hp
        by_cases h1 : o = 1
        · subst h1
          clear hyes
          go_wp2_with (first | (go_at_call 13; refine (rstc_word_power _).mono ?_; rintro e w' ⟨rfl, rfl⟩) | (go_at_call 14; refine (HH.out).mono ?_; rintro e w' ⟨rfl, rfl⟩))
          go_roundw
          case rel => exact ⟨k + 1, s, by omega, by omega, by go_num, rfl, rfl, ⟨hF.c0, hF.c1, hF.n0, by have := hF.n1; omega⟩, hB, hU⟩
          case measure => simp [intOf]; omega
        · have HW := rstc_word_none o wr h1 (by omega) (by omega) (by omega) (by omega)
          have HWH : Hid (Calls Try.prog 13 #[.int .i64 o] wr fun e w' => e = .returned (.string ⟨#[]⟩) ∧ wr = w') := HW
          clear HW hyes h1
          go_wp2_with (first | (go_at_call 13; refine (HWH.out).mono ?_; rintro e w' ⟨rfl, rfl⟩) | (go_at_call 14; refine (HH.out).mono ?_; rintro e w' ⟨rfl, rfl⟩))
          go_roundw
          case rel => exact ⟨k + 1, s, by omega, by omega, by go_num, rfl, rfl, ⟨hF.c0, hF.c1, hF.n0, by have := hF.n1; omega⟩, hB, hU⟩
          case measure => simp [intOf]; omega
    · clear hcell
      have hno : n ≤ k ∨ (k < n ∧ 30 ≤ k) := by omega
      clear hgo
      rcases hno with hno | ⟨hlt, hno⟩
      all_goals
        go_wp2_with fail
        refine (l09_known _).mono ?_
        rintro e w4 ⟨rfl, hu4⟩
        go_wp2_with fail
        refine (rstc_word_power _).mono ?_
        rintro e w' ⟨rfl, rfl⟩
        go_wp2_with fail
        refine (rstc_word_none 3 _ (by decide) (by decide) (by decide) (by decide) (by decide)).mono ?_
        rintro e w' ⟨rfl, rfl⟩
        go_wp2_with fail
        refine (rstc_word_soft _).mono ?_
        rintro e w' ⟨rfl, rfl⟩
        go_wp2_with fail
        go_ret
        exact ⟨rfl, hU.trans hu4⟩

set_option maxHeartbeats 1000000 in
theorem l09_last0 (a : Option Addr) (cap : Nat) (cl : Int) (w : World) :
    Calls Try.prog 3 #[.slice a 0 cap, .int .u32 cl] w fun e w' => e = .returned (.bool true) ∧ Upd [] w w' := by
  go_enter Try.func3, Try.ntmps3
  go_wp2_with fail
  refine (rstc_new _).mono ?_
  rintro e w1 ⟨b, rfl, hb, hB1, hu1⟩
  go_wp2_with fail
  refine (rstc_store b 0 cl _ _ hB1 (by omega) (by omega)).mono ?_
  rintro e w2 ⟨rfl, hB2, hu2⟩
  have hF : Fit (RS.init.store 0 cl).1 0 := ⟨(bits_u32 .andNot 1 cl).1, (bits_u32 .andNot 1 cl).2, by simp [RS.store, RS.init], by simp [RS.store, RS.init]⟩
  generalize (RS.init.store 0 cl).1 = s0 at hB2 hF
  rw [show (RS.init.store 0 cl).2 = 0 from by simp [RS.store]]
  go_wp2_with fail
  refine (rstc_cause b _ _ hB2 hF.c0 hF.c1).mono ?_
  rintro e w3 ⟨rfl, hu3⟩
  have hU3 : Upd [] w w3 := (hu1.and hu2 (by simp [hb])).trans hu3
  clear hB1 hB2 hu1 hu2 hu3
  go_wp2_with fail
  go_loopw [8] (fun i wr => i = .int .i64 0 ∧ Upd [] w wr) (fun _ _ => 0)
  case atStart => exact ⟨rfl, hU3⟩
  case round =>
    obtain ⟨rfl, hU⟩ := hrel
    go_wp2_with fail
    refine (l09_known _).mono ?_
    rintro e w4 ⟨rfl, hu4⟩
    go_wp2_with fail
    refine (rstc_word_power _).mono ?_
    rintro e w' ⟨rfl, rfl⟩
    go_wp2_with fail
    refine (rstc_word_none 3 _ (by decide) (by decide) (by decide) (by decide) (by decide)).mono ?_
    rintro e w' ⟨rfl, rfl⟩
    go_wp2_with fail
    refine (rstc_word_soft _).mono ?_
    rintro e w' ⟨rfl, rfl⟩
    go_wp2_with fail
    go_ret
    exact ⟨rfl, hU.trans hu4⟩

end Go.Proofs.Ytdmdnijgjgjmkaa
