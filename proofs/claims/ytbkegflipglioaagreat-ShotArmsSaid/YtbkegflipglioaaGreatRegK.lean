/- Rows of pairs of numbers, and the sort's words on them. -/
import Derived.Test.YtbkegflipglioaaGreatProg
import Derived.Shelf.SlSortCmp.SmallK
import Derived.Sort.OwnSorted
import Derived.WalkKit
set_option maxRecDepth 20000
namespace Go.Proofs.YtbkegflipglioaaGreat
open Go.RowKit Go.Sort Go.Lib

def encC (x : Int × Int) : List Value := [.int .u32 x.1, .int .u32 x.2]
def encR (x : Int × Int) : Value := .agg #[.int .u32 x.1, .int .u32 x.2]
theorem encR_inj {x y : Int × Int} (h : encR x = encR y) : x = y := by
  simp [encR] at h
  exact Prod.ext h.1 h.2
theorem ltBase (x y : Int × Int) : ltOf (fun x y : Int × Int => Lib.compareInt x.1 y.1) x y = decide (x.1 < y.1) := by
  unfold ltOf Lib.compareInt
  by_cases h1 : x.1 < y.1
  · simp [h1]
  · by_cases h2 : y.1 < x.1 <;> simp [h1, h2]
theorem swoBase : SWO (ltOf fun x y : Int × Int => Lib.compareInt x.1 y.1) where
  irrefl x := by rw [ltBase]; simp
  trans x y z h1 h2 := by rw [ltBase] at *; simp at *; omega
  ntrans x y z h1 h2 := by rw [ltBase] at *; simp at *; omega
theorem flatC_len : ∀ l : List (Int × Int), (l.flatMap encC).length = l.length * 2
  | [] => rfl
  | x :: l => by rw [List.flatMap_cons, List.length_append, flatC_len l]; simp [encC]; omega
theorem flatC_get : ∀ (l : List (Int × Int)) (t : Nat), t < l.length * 2 → (l.flatMap encC)[t]? = some ((encC l[t / 2]!)[t % 2]!)
  | [], t, h => by simp at h
  | x :: l, 0, _ => by simp [List.flatMap_cons, encC]
  | x :: l, 1, _ => by simp [List.flatMap_cons, encC]
  | x :: l, t + 2, h => by
    have h' : t < l.length * 2 := by simp at h; omega
    have ih := flatC_get l t h'
    have e1 : (t + 2) / 2 = t / 2 + 1 := by omega
    have e2 : (t + 2) % 2 = t % 2 := by omega
    rw [e1, e2, List.flatMap_cons]
    show (encC x ++ l.flatMap encC)[t + 2]? = _
    rw [List.getElem?_append_right (by simp [encC]), show t + 2 - (encC x).length = t by simp [encC], ih]
    simp
theorem flatK_list (d : Array (Int × Int)) : (flatK encC 2 d).toList = d.toList.flatMap encC := by
  apply List.ext_getElem?
  intro t
  by_cases ht : t < d.size * 2
  · rw [flatC_get d.toList t (by simpa using ht), Array.getElem?_toList]
    have h2 : t / 2 < d.size := by omega
    simp [flatK, ht, getElem!_pos d (t / 2) h2, h2]
  · rw [List.getElem?_eq_none (by simpa using ht), List.getElem?_eq_none (by rw [flatC_len]; simpa using ht)]
theorem holdsC {w : World} {g : Nat} {cur : Array Value} {e : TypeId} {l : List (Int × Int)} (hb : w.heap[g]? = some (.cells cur e (0, 0))) (ht : cur.toList.take (l.length * 2) = l.flatMap encC) : HoldsK encC 2 w g 0 l.toArray := by
  intro j hj
  have hj' : j < l.length * 2 := by simpa using hj
  refine ⟨?_, by simp [World.frozen?, hb]⟩
  have h1 : (cur.toList.take (l.length * 2))[j]? = (l.flatMap encC)[j]? := by rw [ht]
  rw [List.getElem?_take_of_lt hj', flatC_get l j hj'] at h1
  simp only [World.cell?, hb, Nat.zero_add]
  simp only [Option.isSome_none, Bool.false_eq_true, if_false]
  rw [← Array.getElem?_toList, h1, get_flatK _ _ _ _ (by simpa using hj')]
  simp
theorem heapC {w : World} {g n : Nat} {os : Array Obj} {cur : Array Value} {e : TypeId} {fr : Nat × Nat} (d : Array (Int × Int)) (hb : w.heap[g]? = some (.cells cur e fr)) :
    (sortWorldK encC 2 w g 0 n d os).heap[g]? = some (.cells (putCells id 0 (flatK encC 2 d) cur) e fr) := by
  have hg : g < w.heap.size := (Array.getElem?_eq_some_iff.1 hb).1
  unfold sortWorldK putRowK
  rw [heap_grow_old _ _ (by simpa using hg)]
  simp [putRow, mapBlock, Sort.ahead, Array.getElem?_modify, hb, onCells]
theorem belowC {w : World} {g n : Nat} {os : Array Obj} (d : Array (Int × Int)) {B : Nat} (hB : B ≤ g) (hw : B ≤ w.heap.size) : RowKit.Below B w (sortWorldK encC 2 w g 0 n d os) := by
  refine ⟨rfl, rfl, rfl, by simp [sortWorldK, putRowK, grow, putRow, mapBlock, Sort.ahead], fun k hk => ?_⟩
  unfold sortWorldK putRowK
  rw [heap_grow_old _ _ (by simp [putRow, mapBlock, Sort.ahead]; omega)]
  have : g ≠ k := by omega
  simp [putRow, mapBlock, Sort.ahead, Array.getElem?_modify, this]
theorem takeC (cur F : Array Value) (h : F.size ≤ cur.size) : (putCells id 0 F cur).toList.take F.size = F.toList := by
  apply List.ext_getElem?
  intro j
  by_cases hj : j < F.size
  · rw [List.getElem?_take_of_lt hj, Array.getElem?_toList, Array.getElem?_toList]
    simp [putCells, hj, show j < cur.size by omega]
  · rw [List.getElem?_take_eq_none (by omega), List.getElem?_eq_none (by simp; omega)]
/-- Ascending by the bases. -/
def Asc (l : List (Int × Int)) : Prop := l.Pairwise fun x y => x.1 ≤ y.1
theorem asc_of {d : Array (Int × Int)} (h : SortedIn (ltOf fun x y : Int × Int => Lib.compareInt x.1 y.1) 0 d.size d) : Asc d.toList := by
  unfold Asc
  rw [List.pairwise_iff_getElem]
  intro i j hi hj hij
  have h1 := h i j (Nat.zero_le _) hij (by simpa using hj)
  rw [ltBase] at h1
  have hi' : i < d.size := by simpa using hi
  have hj' : j < d.size := by simpa using hj
  simp only [decide_eq_false_iff_not, Int.not_lt] at h1
  rw [getElem!_pos d i hi', getElem!_pos d j hj'] at h1
  simpa using h1
/-- Behind the sort of a slice that owns its row. -/
theorem ownsC {w : World} {base g cap n : Nat} {e : TypeId} {os : Array Obj} {cur : Array Value} {l : List (Int × Int)} {d : Array (Int × Int)} (hl : d.size = l.length) (hbase : base ≤ g) (hb : w.heap[g]? = some (.cells cur e (0, 0)))
    (h1 : l.length ≤ cap) (h2 : cap ≤ maxLen) (h3 : cur.size = cap * 2) :
    (sortWorldK encC 2 w g 0 n d os).ownsRow base e 2 (.slice (some ⟨g, 0, none⟩) l.length cap) l.length (d.toList.flatMap encC) := by
  refine ⟨by rw [flatC_len]; simp [hl], .inr ⟨g, cap, _, rfl, hbase, heapC d hb, h1, h2, by simp [putCells, h3], ?_⟩⟩
  have := takeC cur (flatK encC 2 d) (by simp [hl, h3]; omega)
  rw [size_flatK, hl, flatK_list] at this
  exact this
/-- What is left of a map's entries: one less behind each step. -/
theorem left_perm (es : Array MapEntry) (seen : Array Nat) (e : MapEntry) (hn : (es.toList.map (·.born)).Nodup) (he : e ∈ (leftOf es seen).toList) : (leftOf es seen).toList.Perm (e :: (leftOf es (seen.push e.born)).toList) := by
  unfold leftOf at he ⊢
  rw [Array.toList_filter] at he ⊢
  rw [Array.toList_filter]
  generalize es.toList = l at hn he ⊢
  induction l with
  | nil => simp at he
  | cons x l ih =>
    have hn' : x.born ∉ l.map (·.born) ∧ (l.map (·.born)).Nodup := List.nodup_cons.1 hn
    have hother : ∀ (m : List MapEntry), x.born ∉ m.map (·.born) → (m.filter fun y => !(seen.push x.born).contains y.born) = m.filter fun y => !seen.contains y.born := by
      intro m hm
      apply List.filter_congr
      intro y hy
      have : (y.born == x.born) = false := by
        cases hc : y.born == x.born with
        | false => rfl
        | true => exact absurd (List.mem_map.2 ⟨y, hy, beq_iff_eq.1 hc⟩) hm
      rw [contains_push, this, Bool.or_false]
    simp only [List.filter_cons] at he ⊢
    by_cases hx : seen.contains x.born = true
    · have h2 : (seen.push e.born).contains x.born = true := by rw [contains_push, hx, Bool.true_or]
      simp only [hx, h2, Bool.not_true, Bool.false_eq_true, if_false] at he ⊢
      exact ih hn'.2 he
    · have hx : seen.contains x.born = false := by simpa using hx
      simp only [hx, Bool.not_false, if_true, List.mem_cons] at he ⊢
      rcases he with rfl | he
      · have h2 : (seen.push e.born).contains e.born = true := by rw [contains_push, beq_self_eq_true, Bool.or_true]
        simp only [h2, Bool.not_true, Bool.false_eq_true, if_false]
        rw [hother l hn'.1]
      · have hne : (x.born == e.born) = false := by
          cases hc : x.born == e.born with
          | false => rfl
          | true =>
            have hm := (List.mem_filter.1 he).1
            exact absurd (by rw [beq_iff_eq.1 hc]; exact List.mem_map.2 ⟨e, hm, rfl⟩) hn'.1
        have h2 : (seen.push e.born).contains x.born = false := by rw [contains_push, hx, hne]; rfl
        simp only [h2, Bool.not_false, if_true]
        exact ((ih hn'.2 he).cons x).trans (List.Perm.swap e x _)
/-- One order alone is ascending where no two bases are the same. -/
theorem asc_unique : ∀ {l m : List (Int × Int)}, l.Perm m → Asc l → m.Pairwise (fun x y => x.1 < y.1) → l = m
  | [], m, hp, _, _ => (List.nil_perm.1 hp).symm ▸ rfl
  | x :: l, [], hp, _, _ => absurd hp.length_eq (by simp)
  | x :: l, y :: m, hp, ha, hm => by
    have hx : x = y := by
      have h1 : x ∈ y :: m := hp.mem_iff.1 (by simp)
      have h2 : y ∈ x :: l := hp.mem_iff.2 (by simp)
      rcases List.mem_cons.1 h1 with h1 | h1
      · exact h1
      rcases List.mem_cons.1 h2 with h2 | h2
      · exact h2.symm
      have h3 := (List.pairwise_cons.1 hm).1 x h1
      have h4 := (List.pairwise_cons.1 ha).1 y h2
      omega
    subst hx
    rw [asc_unique (List.Perm.cons_inv hp) (List.pairwise_cons.1 ha).2 (List.pairwise_cons.1 hm).2]
end Go.Proofs.YtbkegflipglioaaGreat
