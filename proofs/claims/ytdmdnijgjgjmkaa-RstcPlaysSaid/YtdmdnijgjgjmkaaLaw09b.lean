/- The statement RstcPlays: a controller and the document's are alike behind whatever is asked. -/
import Derived.Test.YtdmdnijgjgjmkaaProg
import Derived.Test.YtdmdnijgjgjmkaaBase
import Derived.Test.YtdmdnijgjgjmkaaRstc
import Derived.Test.YtdmdnijgjgjmkaaRef09b
import Derived.Test.YtdmdnijgjgjmkaaLaw09
import Derived.Test.YtdmdnijgjgjmkaaPure04
namespace Go.Proofs.Ytdmdnijgjgjmkaa
open Go.RowKit

/-- A controller and the document's are the same. -/
structure Same09 (s : RS) (r : RR) : Prop where
  c : s.c = wdz r.cs
  l : s.l = r.last
  n : s.n = r.count
  a : s.a = r.asked
  k : s.k = 0
  l0 : 0 ≤ s.l
  l1 : s.l < 4294967296
  n0 : 0 ≤ s.n
  n1 : s.n < 4294967296

set_option maxRecDepth 100000 in
set_option maxHeartbeats 400000 in
theorem l09_alike (b : Nat) (s : RS) (r : RR) (w : World) (h : Blk w b 92 s.cells) (hs : Same09 s r) :
    Calls Try.prog 24 #[.pointer (some ⟨b, 0, none⟩), .agg r.cells.toArray] w fun e w' => e = .returned (.bool true) ∧ Upd [] w w' := by
  have hlt := h.lt
  have hB := Blk.new w 37 r.cells
  have h2 := h.alloc (.cells r.cells.toArray 37)
  have c32 := (hB.cell 32).trans (show (r.cells.toArray)[32]? = some (.int .i64 r.last) by simp [RR.cells])
  have c33 := (hB.cell 33).trans (show (r.cells.toArray)[33]? = some (.int .u32 r.count) by simp [RR.cells])
  have c34 := (hB.cell 34).trans (show (r.cells.toArray)[34]? = some (.bool r.asked) by simp [RR.cells])
  have hr : (w.alloc (.cells r.cells.toArray 37)).rangeAt w.heap.size 0 (fb r.cs 32) := by
    have := hB.range 0 32
    simpa [RR.cells] using this
  have hU0 : Upd [] w (w.alloc (.cells r.cells.toArray 37)) := by (repeat (first | exact Upd.refl _ _ | refine Upd.drew ?_ | refine Upd.drewN ?_ _ | refine Upd.setCell ?_ _ _ (by simp) | refine Upd.alloc ?_ _))
  have hz : w.heap.size < (w.alloc (.cells r.cells.toArray 37)).heap.size := by simp
  go_enter Try.func24, Try.ntmps24
  go_wp2_with fail
  generalize (w.alloc (.cells r.cells.toArray 37)) = W at *
  have L1 : Hid (∀ wx, Upd [] W wx → Calls Try.prog 12 #[.pointer (some ⟨b, 0, none⟩)] wx fun e w' => e = .returned (.int .i64 (wdz r.cs)) ∧ Upd [] wx w') :=
    fun wx hx' => hs.c ▸ rstc_cause b wx _ (h2.upd hx' (by simp)) (by rw [hs.c]; exact wdz_0 _) (by rw [hs.c]; exact wdz_1 _)
  have L2 : Hid (∀ wx, Upd [] W wx → Calls Try.prog 15 #[.pointer (some ⟨b, 0, none⟩)] wx fun e w' => e = .returned (.int .i64 r.last) ∧ Upd [] wx w') :=
    fun wx hx' => hs.l ▸ rstc_last b wx _ (h2.upd hx' (by simp)) hs.l0 hs.l1
  have L3 : Hid (∀ wx, Upd [] W wx → Calls Try.prog 16 #[.pointer (some ⟨b, 0, none⟩)] wx fun e w' => e = .returned (.int .u32 r.count) ∧ Upd [] wx w') :=
    fun wx hx' => hs.n ▸ rstc_count b wx _ (h2.upd hx' (by simp))
  have L4 : Hid (∀ wx, Upd [] W wx → Calls Try.prog 25 #[.pointer (some ⟨b, 0, none⟩)] wx fun e w' => e = .returned (.bool r.asked) ∧ Upd [] wx w') :=
    fun wx hx' => hs.a ▸ rstc_asked b wx _ (h2.upd hx' (by simp))
  have L0 : Hid (∀ wx, Calls Try.prog 44 #[.agg (fb r.cs 32).toArray] wx fun e w' => e = .returned (.int .u32 (wdz r.cs)) ∧ Upd [] wx w') := fun wx => fn_word _ wx
  have hu35 := Try.underlying35
  have hi35 : (Try.prog.info? 35).map (·.size) = some (fb r.cs 32).length := by rw [fb_len]; exact arr32_size
  have hw0 := wdz_0 r.cs
  have hw1 := wdz_1 r.cs
  clear hB hs h2 h
  generalize wdz r.cs = x at *
  have hwx : IntKind.i64.wrap x = x := by rw [IntKind.wrap_i64]; omega
  go_region_held3 (fun w' => (∀ a : Addr, a.block < W.heap.size → w'.cell? a = W.cell? a) ∧ Upd [] W w' ∧ w'.rangeAt w.heap.size 0 (fb r.cs 32)) (first | exact seenr_drew hr | exact seenr_next hz (by assumption) (by assumption)) (first | (go_at_call 12; refine (L1.out _ (And.left (And.right (by assumption)))).mono ?_; rintro e w' ⟨rfl, hux⟩) | (go_at_call 44; refine (L0.out _).mono ?_; rintro e w' ⟨rfl, hux⟩) | (go_at_call 15; refine (L2.out _ (And.left (And.right (by assumption)))).mono ?_; rintro e w' ⟨rfl, hux⟩) | (go_at_call 16; refine (L3.out _ (And.left (And.right (by assumption)))).mono ?_; rintro e w' ⟨rfl, hux⟩) | (go_at_call 25; refine (L4.out _ (And.left (And.right (by assumption)))).mono ?_; rintro e w' ⟨rfl, hux⟩))
  go_wp2_with fail
  go_ret
  exact ⟨rfl, hU0.trans (And.left (And.right (by assumption)))⟩

/-! ### What is alike stays alike -/
theorem same_init : Same09 RS.init RR.init :=
  ⟨(wdz_of _ 1 (by decide) (by decide)).symm, rfl, rfl, rfl, rfl, by decide, by decide, by decide, by decide⟩
theorem same_latch {s : RS} {r : RR} (h : Same09 s r) (c : Int) (hc : isCause c = true) : Same09 (s.latch c) (r.latch c) := by
  have hn0 := h.n0; have hn1 := h.n1
  have key : ∀ j, j < 32 → c = ((2 ^ j : Nat) : Int) → c < 4294967296 → Same09 (s.latch c) (r.lat j c) := fun j hj e hlt => by
    refine ⟨?_, rfl, ?_, rfl, h.k, by simp only [RS.latch]; rw [e]; exact Int.natCast_nonneg _, hlt, ?_, ?_⟩
    · simp only [RS.latch, RR.lat]
      rw [wdz_set _ _ hj, h.c, e]
    · simp only [RS.latch, RR.lat, ← h.n]
      by_cases hm : s.n = 4294967295
      · rw [if_pos hm, if_neg (by omega)]
      · rw [if_neg hm, if_pos (by omega)]
    · simp only [RS.latch]; split <;> omega
    · simp only [RS.latch]; split <;> omega
  unfold isCause at hc
  have hc' : c = 2 ∨ c = 4 ∨ c = 8 ∨ c = 16 := by simpa using hc
  rcases hc' with rfl | rfl | rfl | rfl
  · exact key 1 (by decide) rfl (by decide)
  · exact key 2 (by decide) rfl (by decide)
  · exact key 3 (by decide) rfl (by decide)
  · exact key 4 (by decide) rfl (by decide)
theorem same_load {s : RS} {r : RR} (h : Same09 s r) (off : Int) : s.load off = r.load off := by
  unfold RS.load RR.load
  rw [h.c, h.n, h.k, ← h.l, Int.emod_eq_of_lt h.l0 h.l1]
theorem same_store {s : RS} {r : RR} (h : Same09 s r) (off v : Int) (h0 : 0 ≤ v) (h1 : v < 4294967296) : Same09 (s.store off v).1 (r.store off v).1 ∧ (s.store off v).2 = (r.store off v).2 := by
  by_cases e0 : off = 0
  · subst e0
    simp only [RS.store, RR.store, RR.load]
    refine ⟨⟨?_, h.l, h.n, h.a, h.k, h.l0, h.l1, h.n0, h.n1⟩, rfl⟩
    show bits BinOp.andNot IntKind.u32 s.c v = wdz (clr r.cs v 32)
    rw [h.c]
    exact (wdz_clr r.cs v h0 h1 _ (fun i hi => by simp [clr, hi])).symm
  by_cases e4 : off = 4
  · subst e4; simp [RS.store, RR.store, RR.load, h]
  by_cases e8 : off = 8
  · subst e8
    by_cases hv : v = 45063
    · subst hv
      simp only [RS.store, RR.store, RR.load]
      exact ⟨⟨h.c, h.l, h.n, by simp, h.k, h.l0, h.l1, h.n0, h.n1⟩, rfl⟩
    · have hb : (v == 45063) = false := by simpa using hv
      have e1 : s.store 8 v = (s, 0) := by simp [RS.store, hb]
      have e2 : r.store 8 v = (r, 0) := by simp [RR.store, RR.load, hv]
      rw [e1, e2]
      exact ⟨h, rfl⟩
  by_cases e12 : off = 12
  · subst e12; simp [RS.store, RR.store, RR.load, h]
  by_cases em : off % 4 = 0
  · simp [RS.store, RR.store, RR.load, e0, e4, e8, e12, em, h]
  · simp [RS.store, RR.store, RR.load, em, h]

end Go.Proofs.Ytdmdnijgjgjmkaa
