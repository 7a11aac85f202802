/- Walks of rstc's functions. -/
import Derived.Test.YtdmdnijgjgjmkaaProg
import Derived.Test.YtdmdnijgjgjmkaaBase
import Derived.Deep.QuietTactic
import Derived.BigQuiet
namespace Go.Proofs.Ytdmdnijgjgjmkaa
open Go.RowKit

/-- A controller's words. -/
structure RS where
  c : Int
  n : Int
  k : Int
  l : Int
  a : Bool
def RS.cells (s : RS) : List Value := [.int .u32 s.c, .int .u32 s.n, .int .u32 s.k, .int .u32 s.l, .bool s.a]

def RS.latch (s : RS) (o : Int) : RS := { s with c := bits BinOp.or IntKind.u32 s.c o, l := o, n := if s.n < 4294967295 then (s.n + 1) % 4294967296 else s.n, a := false }
def RS.init : RS := ⟨1, 0, 0, 1, false⟩

set_option maxHeartbeats 400000 in
theorem rstc_word_none (o : Int) (w : World) (h1 : o ≠ 1) (h2 : o ≠ 2) (h4 : o ≠ 4) (h8 : o ≠ 8) (h16 : o ≠ 16) :
    Calls Try.prog 13 #[.int .i64 o] w fun e w' => e = .returned (.string ⟨#[]⟩) ∧ w = w' := by
  go_enter Try.func13, Try.ntmps13
  go_wp2
  go_ret
  exact ⟨rfl, rfl⟩

theorem rstc_word_yes (o : Int) (w : World) (ho : o = 2 ∨ o = 4 ∨ o = 8 ∨ o = 16) :
    Calls Try.prog 13 #[.int .i64 o] w fun e w' => (∃ s : ByteArray, e = .returned (.string s) ∧ s.toList.isEmpty = false ∧ s.toList ≠ [112, 111, 119, 101, 114]) ∧ w = w' := by
  rcases ho with rfl | rfl | rfl | rfl
  all_goals
    go_enter Try.func13, Try.ntmps13
    go_wp2
    go_ret
    exact ⟨⟨_, rfl, by decide +kernel, by decide +kernel⟩, rfl⟩

set_option maxHeartbeats 400000 in
theorem rstc_latch_no (p : Value) (o : Int) (w : World) (hp : p = .pointer none ∨ ∃ b, p = .pointer (some ⟨b, 0, none⟩)) (h2 : o ≠ 2) (h4 : o ≠ 4) (h8 : o ≠ 8) (h16 : o ≠ 16) :
    Calls Try.prog 14 #[p, .int .i64 o] w fun e w' => e = .returned (.bool false) ∧ w = w' := by
  rcases hp with rfl | ⟨b, rfl⟩
  · go_enter Try.func14, Try.ntmps14
    go_wp2
    go_ret
    exact ⟨rfl, rfl⟩
  · by_cases h1 : o = 1
    · subst h1
      go_enter Try.func14, Try.ntmps14
      go_wp2
      go_ret
      exact ⟨rfl, rfl⟩
    · go_enter Try.func14, Try.ntmps14
      go_wp2
      go_ret
      exact ⟨rfl, rfl⟩

theorem rstc_latch_nil (o : Int) (w : World) :
    Calls Try.prog 14 #[.pointer none, .int .i64 o] w fun e w' => e = .returned (.bool false) ∧ w = w' := by
  go_enter Try.func14, Try.ntmps14
  go_wp2
  go_ret
  exact ⟨rfl, rfl⟩

set_option maxHeartbeats 400000 in
theorem rstc_latch_yes (b : Nat) (o : Int) (w : World) (s : RS) (h : Blk w b 92 s.cells) (ho : o = 2 ∨ o = 4 ∨ o = 8 ∨ o = 16) :
    Calls Try.prog 14 #[.pointer (some ⟨b, 0, none⟩), .int .i64 o] w fun e w' => e = .returned (.bool true) ∧ Blk w' b 92 (s.latch o).cells ∧ Upd [b] w w' := by
  obtain ⟨c, n, k, l, ask⟩ := s
  have hc := h.cell
  have hf := h.free
  simp only [RS.cells] at hc
  have o1 : (o == 1) = false := by rcases ho with rfl | rfl | rfl | rfl <;> rfl
  have o2 : 0 ≤ o := by omega
  have o3 : o ≤ 16 := by omega
  have HO : Hid (o = 2 ∨ o = 4 ∨ o = 8 ∨ o = 16) := ho
  clear ho
  by_cases hn : n < 4294967295
  · go_enter Try.func14, Try.ntmps14
    go_wp2_with (go_at_call 13; refine (rstc_word_yes _ _ HO).mono ?_; rintro e w' ⟨⟨sw, rfl, hsw, _⟩, rfl⟩)
    go_region
    go_wp2_with fail
    go_region
    go_wp2_with fail
    go_ret
    refine ⟨rfl, Blk.eq ((((h.set _).set _).set _).set _) ?_, ?_⟩
    · simp [RS.latch, RS.cells, hn]
    · (repeat (first | exact Upd.refl _ _ | refine Upd.drew ?_ | refine Upd.drewN ?_ _ | refine Upd.setCell ?_ _ _ (by simp) | refine Upd.alloc ?_ _))
  · go_enter Try.func14, Try.ntmps14
    go_wp2_with (go_at_call 13; refine (rstc_word_yes _ _ HO).mono ?_; rintro e w' ⟨⟨sw, rfl, hsw, _⟩, rfl⟩)
    go_region
    go_wp2_with fail
    go_ret
    refine ⟨rfl, Blk.eq (((h.set _).set _).set _) ?_, ?_⟩
    · have hm : ¬ n < 4294967295 := by omega
      simp [RS.latch, RS.cells, hm]
    · (repeat (first | exact Upd.refl _ _ | refine Upd.drew ?_ | refine Upd.drewN ?_ _ | refine Upd.setCell ?_ _ _ (by simp) | refine Upd.alloc ?_ _))

theorem rstc_fresh (w : World) :
    Calls Try.prog 40 #[] w fun e w' => e = .returned (.agg RS.init.cells.toArray) ∧ Upd [] w w' := by
  go_enter Try.func40, Try.ntmps40
  go_wp2
  exact bodyPost_ret (v := .agg RS.init.cells.toArray) (by simp [results, Try.results40, go_sem, RS.init, RS.cells]) rfl ⟨rfl, by (repeat (first | exact Upd.refl _ _ | refine Upd.drew ?_ | refine Upd.drewN ?_ _ | refine Upd.setCell ?_ _ _ (by simp) | refine Upd.alloc ?_ _))⟩

theorem rstc_new (w : World) :
    Calls Try.prog 10 #[] w fun e w' => ∃ b, e = .returned (.pointer (some ⟨b, 0, none⟩)) ∧ w.heap.size ≤ b ∧ Blk w' b 92 RS.init.cells ∧ Upd [] w w' := by
  go_enter Try.func10, Try.ntmps10
  go_wp2_with (go_at_call 40; refine (rstc_fresh _).mono ?_; rintro e w' ⟨rfl, hu⟩; simp only [RS.init, RS.cells])
  go_ret
  exact ⟨_, rfl, hu.size, Blk.new _ _ _, hu.alloc _⟩

theorem rstc_of (b : Nat) (w : World) (s : RS) (h : Blk w b 92 s.cells) :
    Calls Try.prog 42 #[.pointer (some ⟨b, 0, none⟩)] w fun e w' => e = .returned (.agg s.cells.toArray) ∧ Upd [] w w' := by
  obtain ⟨c, n, k, l, ask⟩ := s
  have hc := h.cell
  have hl := h.lt
  simp only [RS.cells] at hc
  go_enter Try.func42, Try.ntmps42
  go_wp2
  exact bodyPost_ret (v := .agg #[.int .u32 c, .int .u32 n, .int .u32 k, .int .u32 l, .bool ask]) (by simp [results, Try.results42, go_sem]) rfl ⟨rfl, by (repeat (first | exact Upd.refl _ _ | refine Upd.drew ?_ | refine Upd.drewN ?_ _ | refine Upd.setCell ?_ _ _ (by simp) | refine Upd.alloc ?_ _))⟩
theorem rstc_of_nil (w : World) :
    Calls Try.prog 42 #[.pointer none] w fun e w' => e = .returned (.agg #[.int .u32 0, .int .u32 0, .int .u32 0, .int .u32 0, .bool false]) ∧ Upd [] w w' := by
  go_enter Try.func42, Try.ntmps42
  go_wp2
  exact bodyPost_ret (v := .agg #[.int .u32 0, .int .u32 0, .int .u32 0, .int .u32 0, .bool false]) (by simp [results, Try.results42, go_sem]) rfl ⟨rfl, by (repeat (first | exact Upd.refl _ _ | refine Upd.drew ?_ | refine Upd.drewN ?_ _ | refine Upd.setCell ?_ _ _ (by simp) | refine Upd.alloc ?_ _))⟩

theorem rstc_cause (b : Nat) (w : World) (s : RS) (h : Blk w b 92 s.cells) (h0 : 0 ≤ s.c) (h1 : s.c < 4294967296) :
    Calls Try.prog 12 #[.pointer (some ⟨b, 0, none⟩)] w fun e w' => e = .returned (.int .i64 s.c) ∧ Upd [] w w' := by
  go_enter Try.func12, Try.ntmps12
  go_wp2_with (go_at_call 42; refine (rstc_of _ _ _ h).mono ?_; rintro e w' ⟨rfl, hu⟩; simp only [RS.cells])
  go_ret
  exact ⟨rfl, hu⟩
theorem rstc_last (b : Nat) (w : World) (s : RS) (h : Blk w b 92 s.cells) (h0 : 0 ≤ s.l) (h1 : s.l < 4294967296) :
    Calls Try.prog 15 #[.pointer (some ⟨b, 0, none⟩)] w fun e w' => e = .returned (.int .i64 s.l) ∧ Upd [] w w' := by
  go_enter Try.func15, Try.ntmps15
  go_wp2_with (go_at_call 42; refine (rstc_of _ _ _ h).mono ?_; rintro e w' ⟨rfl, hu⟩; simp only [RS.cells])
  go_ret
  exact ⟨rfl, hu⟩
theorem rstc_count (b : Nat) (w : World) (s : RS) (h : Blk w b 92 s.cells) :
    Calls Try.prog 16 #[.pointer (some ⟨b, 0, none⟩)] w fun e w' => e = .returned (.int .u32 s.n) ∧ Upd [] w w' := by
  go_enter Try.func16, Try.ntmps16
  go_wp2_with (go_at_call 42; refine (rstc_of _ _ _ h).mono ?_; rintro e w' ⟨rfl, hu⟩; simp only [RS.cells])
  go_ret
  exact ⟨rfl, hu⟩
set_option maxHeartbeats 400000 in
theorem rstc_asked (b : Nat) (w : World) (s : RS) (h : Blk w b 92 s.cells) :
    Calls Try.prog 25 #[.pointer (some ⟨b, 0, none⟩)] w fun e w' => e = .returned (.bool s.a) ∧ Upd [] w w' := by
  obtain ⟨c, n, k, l, ask⟩ := s
  cases ask
  all_goals
    go_enter Try.func25, Try.ntmps25
    go_wp2_with (go_at_call 42; refine (rstc_of _ _ _ h).mono ?_; rintro e w' ⟨rfl, hu⟩; simp only [RS.cells]; have hc' := (h.upd hu (by simp)).cell; simp only [RS.cells] at hc')
    all_goals (go_ret; exact ⟨rfl, hu⟩)

theorem rstc_cause_nil (w : World) : Calls Try.prog 12 #[.pointer none] w fun e w' => e = .returned (.int .i64 0) ∧ Upd [] w w' := by
  go_enter Try.func12, Try.ntmps12
  go_wp2_with (go_at_call 42; refine (rstc_of_nil _).mono ?_; rintro e w' ⟨rfl, hu⟩)
  go_ret
  exact ⟨rfl, hu⟩
theorem rstc_last_nil (w : World) : Calls Try.prog 15 #[.pointer none] w fun e w' => e = .returned (.int .i64 0) ∧ Upd [] w w' := by
  go_enter Try.func15, Try.ntmps15
  go_wp2_with (go_at_call 42; refine (rstc_of_nil _).mono ?_; rintro e w' ⟨rfl, hu⟩)
  go_ret
  exact ⟨rfl, hu⟩
theorem rstc_count_nil (w : World) : Calls Try.prog 16 #[.pointer none] w fun e w' => e = .returned (.int .u32 0) ∧ Upd [] w w' := by
  go_enter Try.func16, Try.ntmps16
  go_wp2_with (go_at_call 42; refine (rstc_of_nil _).mono ?_; rintro e w' ⟨rfl, hu⟩)
  go_ret
  exact ⟨rfl, hu⟩
theorem rstc_asked_nil (w : World) : Calls Try.prog 25 #[.pointer none] w fun e w' => e = .returned (.bool false) ∧ Upd [] w w' := by
  go_enter Try.func25, Try.ntmps25
  go_wp2_with (go_at_call 42; refine (rstc_of_nil _).mono ?_; rintro e w' ⟨rfl, hu⟩)
  go_ret
  exact ⟨rfl, hu⟩
theorem rstc_copy_nil (w : World) : Calls Try.prog 23 #[.pointer none] w fun e w' => e = .returned (.pointer none) ∧ w = w' := by
  go_enter Try.func23, Try.ntmps23
  go_wp2
  go_ret
  exact ⟨rfl, rfl⟩
theorem rstc_copy (b : Nat) (w : World) (s : RS) (h : Blk w b 92 s.cells) :
    Calls Try.prog 23 #[.pointer (some ⟨b, 0, none⟩)] w fun e w' => e = .returned (.pointer (some ⟨w.heap.size, 0, none⟩)) ∧ Blk w' w.heap.size 92 s.cells ∧ Upd [] w w' := by
  obtain ⟨c, n, k, l, ask⟩ := s
  have hc := h.cell
  simp only [RS.cells] at hc
  go_enter Try.func23, Try.ntmps23
  go_wp2
  go_ret
  exact ⟨rfl, Blk.new _ _ _, by (repeat (first | exact Upd.refl _ _ | refine Upd.drew ?_ | refine Upd.drewN ?_ _ | refine Upd.setCell ?_ _ _ (by simp) | refine Upd.alloc ?_ _))⟩

theorem rstc_load_nil (off : Int) (w : World) : Calls Try.prog 21 #[.pointer none, .int .u32 off] w fun e w' => e = .returned (.tuple #[.int .u32 0, .int .i64 10]) ∧ w = w' := by
  go_enter Try.func21, Try.ntmps21
  go_wp2
  go_ret2
  exact ⟨rfl, rfl⟩
theorem rstc_store_nil (off v : Int) (w : World) : Calls Try.prog 11 #[.pointer none, .int .u32 off, .int .u32 v] w fun e w' => e = .returned (.int .i64 10) ∧ w = w' := by
  go_enter Try.func11, Try.ntmps11
  go_wp2
  go_ret
  exact ⟨rfl, rfl⟩

/-- What a load tells: the value, the error. -/
def RS.load (s : RS) (off : Int) : Int × Int :=
  if off % 4 ≠ 0 then (0, 11) else if off = 0 then (s.c, 0) else if off = 4 then (s.n, 0) else if off = 8 then (s.k, 0) else if off = 12 then (s.l, 0) else (0, 10)

set_option maxHeartbeats 400000 in
theorem rstc_load (b : Nat) (off : Int) (w : World) (s : RS) (h : Blk w b 92 s.cells) (h0 : 0 ≤ off) (h1 : off < 4294967296) :
    Calls Try.prog 21 #[.pointer (some ⟨b, 0, none⟩), .int .u32 off] w fun e w' => e = .returned (.tuple #[.int .u32 (s.load off).1, .int .i64 (s.load off).2]) ∧ w = w' := by
  obtain ⟨c, n, k, l, ask⟩ := s
  have hc := h.cell
  simp only [RS.cells] at hc
  by_cases e0 : off % 4 = 0
  · by_cases e1 : off = 0
    · subst e1
      go_enter Try.func21, Try.ntmps21
      go_wp2
      go_ret2
      exact ⟨by simp [RS.load], rfl⟩
    by_cases e1 : off = 4
    · subst e1
      go_enter Try.func21, Try.ntmps21
      go_wp2
      go_ret2
      exact ⟨by simp [RS.load], rfl⟩
    by_cases e1 : off = 8
    · subst e1
      go_enter Try.func21, Try.ntmps21
      go_wp2
      go_ret2
      exact ⟨by simp [RS.load], rfl⟩
    by_cases e1 : off = 12
    · subst e1
      go_enter Try.func21, Try.ntmps21
      go_wp2
      go_ret2
      exact ⟨by simp [RS.load], rfl⟩
    have hg : 16 ≤ off := by omega
    go_enter Try.func21, Try.ntmps21
    go_wp2
    go_ret2
    exact ⟨by simp [RS.load, *], rfl⟩
  · go_enter Try.func21, Try.ntmps21
    go_wp2
    go_ret2
    exact ⟨by simp [RS.load, *], rfl⟩

def RS.store (s : RS) (off v : Int) : RS × Int :=
  if off % 4 ≠ 0 then (s, 11) else if off = 0 then ({ s with c := bits BinOp.andNot IntKind.u32 s.c v }, 0) else if off = 8 then ({ s with a := s.a || (v == 45063) }, 0) else if off = 4 then (s, 12) else if off = 12 then (s, 12) else (s, 10)

set_option maxHeartbeats 400000 in
theorem rstc_store (b : Nat) (off v : Int) (w : World) (s : RS) (h : Blk w b 92 s.cells) (h0 : 0 ≤ off) (h1 : off < 4294967296) :
    Calls Try.prog 11 #[.pointer (some ⟨b, 0, none⟩), .int .u32 off, .int .u32 v] w fun e w' => e = .returned (.int .i64 (s.store off v).2) ∧ Blk w' b 92 (s.store off v).1.cells ∧ Upd [b] w w' := by
  obtain ⟨c, n, k, l, ask⟩ := s
  have hc := h.cell
  have hf := h.free
  simp only [RS.cells] at hc
  by_cases e0 : off % 4 = 0
  · by_cases e1 : off = 0
    · subst e1
      go_enter Try.func11, Try.ntmps11
      go_wp2
      go_region
      go_wp2
      go_ret
      exact ⟨by simp [RS.store], Blk.eq (h.set _) (by simp [RS.store, RS.cells]), by (repeat (first | exact Upd.refl _ _ | refine Upd.drew ?_ | refine Upd.drewN ?_ _ | refine Upd.setCell ?_ _ _ (by simp) | refine Upd.alloc ?_ _))⟩
    by_cases e1 : off = 4
    · subst e1
      go_enter Try.func11, Try.ntmps11
      go_wp2
      go_ret
      exact ⟨by simp [RS.store], Blk.eq h (by simp [RS.store]), by (repeat (first | exact Upd.refl _ _ | refine Upd.drew ?_ | refine Upd.drewN ?_ _ | refine Upd.setCell ?_ _ _ (by simp) | refine Upd.alloc ?_ _))⟩
    by_cases e1 : off = 8
    · subst e1
      cases ask <;> by_cases ev : v = 45063
      all_goals
        go_enter Try.func11, Try.ntmps11
        go_wp2
        go_ret
        exact ⟨by simp [RS.store], Blk.eq (h.set _) (by simp [RS.store, RS.cells, ev]), by (repeat (first | exact Upd.refl _ _ | refine Upd.drew ?_ | refine Upd.drewN ?_ _ | refine Upd.setCell ?_ _ _ (by simp) | refine Upd.alloc ?_ _))⟩
    by_cases e1 : off = 12
    · subst e1
      go_enter Try.func11, Try.ntmps11
      go_wp2
      go_ret
      exact ⟨by simp [RS.store], Blk.eq h (by simp [RS.store]), by (repeat (first | exact Upd.refl _ _ | refine Upd.drew ?_ | refine Upd.drewN ?_ _ | refine Upd.setCell ?_ _ _ (by simp) | refine Upd.alloc ?_ _))⟩
    have hg : 16 ≤ off := by omega
    go_enter Try.func11, Try.ntmps11
    go_wp2
    go_ret
    exact ⟨by simp [RS.store, *], Blk.eq h (by simp [RS.store, *]), by (repeat (first | exact Upd.refl _ _ | refine Upd.drew ?_ | refine Upd.drewN ?_ _ | refine Upd.setCell ?_ _ _ (by simp) | refine Upd.alloc ?_ _))⟩
  · go_enter Try.func11, Try.ntmps11
    go_wp2
    go_ret
    exact ⟨by simp [RS.store, *], Blk.eq h (by simp [RS.store, *]), by (repeat (first | exact Upd.refl _ _ | refine Upd.drew ?_ | refine Upd.drewN ?_ _ | refine Upd.setCell ?_ _ _ (by simp) | refine Upd.alloc ?_ _))⟩

end Go.Proofs.Ytdmdnijgjgjmkaa
