/- bus.Regions: all keys of the map, in the order of their bases. -/
import Derived.Test.YtbkegflipglioaaGreatProg
import Derived.Test.YtbkegflipglioaaGreatShelf
import Derived.Test.YtbkegflipglioaaGreatRegK
import Derived.Maps.RangeRun
import Derived.Maps.AppendAt
import Derived.Shelf.SlSortCmp.SmallK
import Derived.WalkKit
set_option maxRecDepth 20000
namespace Go.Proofs.YtbkegflipglioaaGreat
open Go.RowKit Go.Sort Go.Lib

set_option maxHeartbeats 1000000 in
/-- The closure that Regions hands to the sort. -/
theorem regions_cmp (x y : Int × Int) (W : World) : Calls Tryz.prog 164 #[.agg #[.int .u32 x.1, .int .u32 x.2], .agg #[.int .u32 y.1, .int .u32 y.2]] W fun e w' => e = .returned (.int .i64 (Lib.compareInt x.1 y.1)) ∧ ∃ q os', w' = grow (W.drewN q) os' := by
  obtain ⟨x1, x2⟩ := x
  obtain ⟨y1, y2⟩ := y
  have fin : ∀ (a b : Obj), ∃ q os', (W.alloc a).alloc b = grow (W.drewN q) os' := fun a b => ⟨0, _, by rw [alloc_eq_grow, alloc_eq_grow, grow_grow]; rfl⟩
  go_enter Tryz.func164, Tryz.ntmps164
  unfold Lib.compareInt
  rcases Int.lt_trichotomy x1 y1 with h1 | h1 | h1
  · go_wp2
    go_ret
    exact ⟨by simp [h1], fin _ _⟩
  · subst h1
    go_wp2
    go_ret
    exact ⟨by simp, fin _ _⟩
  · have h2 : ¬ x1 < y1 := by omega
    go_wp2
    go_ret
    exact ⟨by simp [h1, h2], fin _ _⟩
theorem regions_len (n : Nat) (W : World) (h : n ≤ 12) : Calls Tryz.prog 174 #[.int .u64 n] W fun e w' => (∃ l : Int, e = .returned (.int .i64 l)) ∧ w' = W :=
  (Any.bits_Len Tryz.lays125 n W (by omega) (by omega)).mono fun _ _ ⟨he, hw⟩ => ⟨⟨_, he⟩, hw⟩
/-- The sort of a slice that owns its row. -/
theorem regions_sort (g cap : Nat) (l : List (Int × Int)) (w : World) (cur : Array Value) (base : Nat) (hbase : base ≤ g) (hbw : base ≤ w.heap.size) (hb : w.heap[g]? = some (.cells cur 212 (0, 0))) (h1 : l.length ≤ cap) (h2 : cap ≤ maxLen) (h3 : cur.size = cap * 2) (h4 : cur.toList.take (l.length * 2) = l.flatMap encC) (h12 : l.length ≤ 12) :
    Calls Tryz.prog 163 #[.slice (some ⟨g, 0, none⟩) l.length cap, .func (.func 164) #[] #[]] w fun e w' => e = .returned (.tuple #[]) ∧ RowKit.Below base w w' ∧ ∃ m : List (Int × Int), m.Perm l ∧ Asc m ∧ w'.ownsRow base 212 2 (.slice (some ⟨g, 0, none⟩) l.length cap) l.length (m.flatMap encC) := by
  have eg : ∀ args w, (callFunc 164 args).run Tryz.prog w = .ok (.enter 164 args) w := enters_of Tryz.func164 (by kernel_rfl) rfl
  have hcon := AnyQ.slices_SortFunc_small_sorted Tryz.sortRegion 2 Tryz.isAgg212 Tryz.sizeOf212 encC (fun _ => rfl) (fun x v hv => by simp [encC] at hv; rcases hv with rfl | rfl <;> rfl) (fun x y => Lib.compareInt x.1 y.1) 164 #[] swoBase g 0 cap l.toArray w eg
    (fun _ _ _ _ x y => regions_cmp x y _) (holdsC hb h4) (Array.getElem?_eq_some_iff.1 hb).1 (by simpa using h12) regions_len
  change Calls Tryz.prog 163 _ _ _ at hcon
  refine hcon.mono ?_
  rintro e w' ⟨rfl, d', n, os, hp, hs, rfl⟩
  have hsz : d'.size = l.length := by simpa using hp.1
  refine ⟨rfl, belowC d' hbase hbw, d'.toList, ?_, asc_of (by rw [hsz]; simpa using hs), ?_⟩
  · have := hp.2.2
    simp only [List.size_toArray, List.extract_toArray, Nat.sub_zero, List.drop_zero] at this
    rw [← hsz, Array.extract_size] at this
    rw [hsz] at this
    simpa using this
  · exact ownsC hsz hbase hb h1 h2 h3
end Go.Proofs.YtbkegflipglioaaGreat
