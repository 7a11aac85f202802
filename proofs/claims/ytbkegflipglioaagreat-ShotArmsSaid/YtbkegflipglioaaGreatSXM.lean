/- SX: SX9 to SXM. -/
import Derived.Test.YtbkegflipglioaaGreatSX8
import Derived.Test.YtbkegflipglioaaGreatSX6
import Derived.Laws.OwnMore
import Derived.Laws.IdiomCopy
import Derived.Maps.AppendAt
import Derived.MapKept
namespace Go.SX
open Go.RowKit
section
variable {W : Addr → Nat → Nat → Option (List S)}
variable {P : Program} {tt : Nat → Option TI} {w0 w : World} {S0 : List Nat} {ν : Nat → Env} {h : List Ob}
theorem getO_spec : ∀ (h : List Ob) (i : Nat), h[i]? = some (getO h i) ∨ getO h i = .dead
  | [], i => Or.inr rfl
  | x :: r, 0 => Or.inl (by rw [getO_zero]; rfl)
  | x :: r, i + 1 => by rw [getO_succ]; simpa using getO_spec r i
theorem setO_eq : ∀ (h : List Ob) (i : Nat) (o : Ob), setO h i o = h.set i o
  | [], i, o => by simp [setO]
  | x :: r, 0, o => by simp [setO]
  | x :: r, i + 1, o => by simp [setO, setO_eq r i o]
theorem stdG_spec {cs : List S} {o n : Nat} {r : List S} (h : stdG cs o n = some r) : r = (cs.drop o).take n ∧ o + n ≤ cs.length := by
  unfold stdG at h
  split at h
  · simp only [Option.some.injEq] at h; exact ⟨h.symm, by assumption⟩
  · cases h
theorem getC_spec {o : Ob} {off : NN} {n : Nat} {r : List S} (h : getC (std W) o off n = some r) : r = ((cellsOf o).drop off.val).take n ∧ off.val + n ≤ (cellsOf o).length := by
  unfold getC at h
  split at h
  · exact subL_spec h
  · exact stdG_spec h
theorem ob_cells {e : Env} {o : Ob} (H : o.holds h.length ν e w) : ∃ vs, oks h.length ν (cellsOf o) vs ∧ ∀ j u, vs[j]? = some u → w.cell? ⟨e.blk, e.base + j, none⟩ = some u := by
  cases o with
  | cells T cs =>
    obtain ⟨h0, vs, h1, h2⟩ := H
    exact ⟨vs, h1, fun j u hu => by simp [World.cell?, h2, h0, hu]⟩
  | row T sz n cs =>
    obtain ⟨h0, vs, cur, h1, h2, h3, h4, h5, h6, h7, _⟩ := H
    refine ⟨vs, h1, fun j u hu => ?_⟩
    rw [← h6, List.getElem?_take] at hu
    split at hu
    · simp only [World.cell?, h2, h0, Nat.zero_add]; simpa using hu
    · cases hu
  | win cs =>
    obtain ⟨vs, h1, h2⟩ := H
    exact ⟨vs, h1, h2⟩
  | nrow T ks xs => exact ⟨[], oks_nil, by simp⟩
  | rowT T sz n cs => exact ⟨[], oks_nil, by simp⟩
  | opt x T cs => exact ⟨[], oks_nil, by simp⟩
  | nwin ks xs => exact ⟨[], oks_nil, by simp⟩
  | mapo ks vs => exact ⟨[], oks_nil, by simp⟩
  | orc l => exact ⟨[], oks_nil, by simp⟩
  | dead => exact ⟨[], oks_nil, by simp⟩
theorem getC_ok (H : HOk W w0 S0 ν h w) {id n : Nat} {off : NN} {r : List S} (hg : getC (std W) (getO h id) off n = some r) :
    ∃ vs, oks h.length ν r vs ∧ vs.length = n ∧ w.rangeAt (ν id).blk ((ν id).base + off.val) vs := by
  obtain ⟨h1, h2⟩ := getC_spec hg
  subst h1
  have key : ∃ vs, oks h.length ν (cellsOf (getO h id)) vs ∧ ∀ j u, vs[j]? = some u → w.cell? ⟨(ν id).blk, (ν id).base + j, none⟩ = some u := by
    rcases getO_spec h id with h3 | h3
    · exact ob_cells (H.ob id _ h3)
    · rw [h3]; exact ⟨[], oks_nil, by simp⟩
  obtain ⟨vs, h3, h4⟩ := key
  have hl := oks_len h3
  refine ⟨(vs.drop off.val).take n, oks_take _ (oks_drop _ h3), by simp; omega, fun j u hu => ?_⟩
  rw [List.getElem?_take] at hu
  split at hu
  · rw [List.getElem?_drop] at hu
    rw [Nat.add_assoc]
    exact h4 _ _ hu
  · cases hu
theorem far_ok (H : HOk W w0 S0 ν h w) {a : Addr} {o n : Nat} {r : List S} (hg : W a o n = some r) : ∃ vs, oks h.length ν r vs ∧ vs.length = n ∧ w.rangeAt a.block (a.off + o) vs := by
  obtain ⟨h1, h2, vs, h3, h4, h5⟩ := H.far a o n r hg
  refine ⟨vs, h3 _ _, h4, fun j u hu => ?_⟩
  refine Eq.trans (World.cell?_of_block (w := w0) ?_) (h5 j u hu)
  exact H.upd.block a.block h1 h2
theorem load_all {t : TypeId} {ti : TI} (hti : TIOk P t ti) (hag : ti.agg = true) {b o : Nat} {r : List S} {vs : List Value} (h1 : oks h.length ν r vs) (h2 : vs.length = ti.size) (h3 : w.rangeAt b o vs) :
    ∃ u, (S.agg r).ok h.length ν u ∧ (Instr.loadAt t (.pointer (some ⟨b, o, none⟩))).run P w = .ok u w := by
  refine ⟨.agg vs.toArray, by simp only [S.ok]; exact ⟨vs, rfl, h1⟩, ?_⟩
  obtain ⟨d, hd⟩ := hti.und
  obtain ⟨i, z, zs, hi1, hi2, _⟩ := hti.info
  have hrow : d.isRow = true := by
    have hdd := hti.desc
    cases hq : ti.d <;> simp only [hq, hd] at hdd <;> simp [TI.agg, hq] at hag
    case arr => cases hdd; rfl
    case struct => obtain ⟨fa, hfa, _⟩ := hdd; cases hfa; rfl
  simp only [Instr.loadAt, Instr.sureAddr, Sem.run_bind, Sem.run_pure, Result.andThen_ok]
  exact run_loadVar_mid w _ _ t vs d h3 hd hrow (by rw [hi1, h2]; simp [hi2])
theorem load_one {t : TypeId} {ti : TI} (hti : TIOk P t ti) (hag : ti.agg = false) {b o : Nat} {x : S} {vs : List Value} (h1 : oks h.length ν [x] vs) (h3 : w.rangeAt b o vs) :
    ∃ u, x.ok h.length ν u ∧ (Instr.loadAt t (.pointer (some ⟨b, o, none⟩))).run P w = .ok u w := by
  simp only [S.oks] at h1
  obtain ⟨u, _, rfl, h4, rfl⟩ := h1
  refine ⟨u, h4, ?_⟩
  have hc := h3 0 u rfl
  simp only [Nat.add_zero] at hc
  simp [Instr.loadAt, Instr.sureAddr, loadVar, run_agg hti, hag, load, Sem.run, hc]
theorem getE_ok (H : HOk W w0 S0 ν h w) {id i sz off n : Nat} {r : List S} (hg : getE (getO h id) i sz off n = some r) (hi : i < (ν id).len) :
    ∃ vs, oks h.length ν r vs ∧ vs.length = n ∧ w.rangeAt (ν id).blk ((ν id).base + (i * sz + off)) vs := by
  have hob : (getO h id).holds h.length ν (ν id) w := by
    rcases getO_spec h id with h3 | h3
    · exact H.ob id _ h3
    · rw [h3]; trivial
  have key : ∀ (ks : List Kd) (xs : List (List Int)), xs.length = (ν id).len → Nat.beq ks.length sz = true → Nat.ble (off + n) sz = true → r = elC xs i ((ks.drop off).take n) off → (∃ vs, oks h.length ν (rowC ks xs) vs ∧ ∀ j u, vs[j]? = some u → w.cell? ⟨(ν id).blk, (ν id).base + j, none⟩ = some u) →
      ∃ vs, oks h.length ν r vs ∧ vs.length = n ∧ w.rangeAt (ν id).blk ((ν id).base + (i * sz + off)) vs := by
    intro ks xs hl h1 h2 hr ⟨vs, h3, h4⟩
    have h1 := Nat.eq_of_beq_eq_true h1
    have h2 := Nat.le_of_ble_eq_true h2
    subst h1
    rw [rowC_sub (by omega) h2] at hr
    subst hr
    have hlen := oks_len h3
    rw [rowC_len] at hlen
    have := mul_lt (sz := ks.length) (show i < xs.length by omega)
    refine ⟨(vs.drop (i * ks.length + off)).take n, oks_take _ (oks_drop _ h3), by simp; omega, fun j u hu => ?_⟩
    rw [List.getElem?_take] at hu
    split at hu
    · rw [List.getElem?_drop] at hu
      rw [Nat.add_assoc]
      exact h4 _ _ hu
    · cases hu
  generalize getO h id = o at hg hob
  unfold getE at hg
  split at hg
  · rename_i T ks xs
    split at hg
    case h_2 => cases hg
    rename_i h1 h2
    simp only [Option.some.injEq] at hg
    obtain ⟨h3, h4⟩ := hob
    refine key ks xs h3.symm h1 h2 hg.symm ?_
    cases xs with
    | nil => simp at h3; omega
    | cons x xs =>
      obtain ⟨h0, vs, cur, q1, q2, q3, q4, q5, q6, q7⟩ := h4
      refine ⟨vs, q1, fun j u hu => ?_⟩
      rw [← q6, List.getElem?_take] at hu
      split at hu
      · simp only [World.cell?, q2, h0, Nat.zero_add]; simpa using hu
      · cases hu
  · rename_i T sz' n' cs
    split at hg
    case h_2 => cases hg
    rename_i h1 h2
    have h1 := Nat.eq_of_beq_eq_true h1
    have h2 := Nat.le_of_ble_eq_true h2
    subst h1
    obtain ⟨h3, h4⟩ := subL_spec hg
    subst h3
    obtain ⟨h0, vs, cur, q1, q2, q3, q4, q5, q6, q7, q8⟩ := hob
    have hlen := oks_len q1
    have hm := mul_lt (sz := sz') (show i < n' by omega)
    refine ⟨(vs.drop (i * sz' + off)).take n, oks_take _ (oks_drop _ q1), by simp; omega, fun j u hu => ?_⟩
    rw [List.getElem?_take] at hu
    split at hu
    · rename_i hj
      rw [List.getElem?_drop] at hu
      have hp : i * sz' + off + j < n' * sz' := by omega
      have e1 : (cur.toList.take (n' * sz'))[i * sz' + off + j]? = some u := by rw [q6, List.getElem?_take, if_pos hp]; exact hu
      rw [List.getElem?_take, if_pos hp] at e1
      simp only [World.cell?, q2, h0, Nat.zero_add]
      simpa using e1
    · cases hu
  · rename_i ks xs
    split at hg
    case h_2 => cases hg
    rename_i h1 h2
    simp only [Option.some.injEq] at hg
    obtain ⟨h3, h4⟩ := hob
    refine key ks xs h3.symm h1 h2 hg.symm ?_
    cases xs with
    | nil => simp at h3; omega
    | cons x xs => exact h4
  · cases hg
theorem loadS_sound (hT : TOk P tt) (H : HOk W w0 S0 ν h w) {t : TypeId} {a r : S} {v : Value} (hl : loadS (std W) tt t a h = some r) (ha : a.ok h.length ν v) : ∃ u, r.ok h.length ν u ∧ (Instr.loadAt t v).run P w = .ok u w := by
  unfold loadS at hl
  split at hl
  case h_4 => cases hl
  · rename_i id i sz off
    split at hl
    case h_2 => cases hl
    rename_i ti ht
    have hti := hT t ti ht
    simp only [S.ok] at ha
    obtain ⟨_, hlt, rfl⟩ := ha
    split at hl
    · rename_i hag
      split at hl
      case h_2 => cases hl
      rename_i r' hg
      simp only [Option.some.injEq] at hl
      subst hl
      obtain ⟨vs, h1, h2, h3⟩ := getE_ok H hg hlt
      exact load_all hti hag h1 h2 h3
    · rename_i hag
      split at hl
      case h_2 => cases hl
      rename_i x hg
      split at hl
      case isFalse => cases hl
      simp only [Option.some.injEq] at hl
      subst hl
      obtain ⟨vs, h1, h2, h3⟩ := getE_ok H hg hlt
      exact load_one hti (by simpa using hag) h1 h3
  · rename_i id off
    split at hl
    case h_2 => cases hl
    rename_i ti ht
    have hti := hT t ti ht
    simp only [S.ok] at ha
    obtain ⟨_, rfl⟩ := ha
    split at hl
    · rename_i hag
      split at hl
      case h_2 => cases hl
      rename_i r' hg
      simp only [Option.some.injEq] at hl
      subst hl
      obtain ⟨vs, h1, h2, h3⟩ := getC_ok H hg
      exact load_all hti hag h1 h2 h3
    · rename_i hag
      split at hl
      case h_2 => cases hl
      rename_i x hg
      split at hl
      case isFalse => cases hl
      simp only [Option.some.injEq] at hl
      subst hl
      obtain ⟨vs, h1, h2, h3⟩ := getC_ok H hg
      exact load_one hti hag h1 h3
  · rename_i a off
    split at hl
    case h_2 => cases hl
    rename_i ti ht
    have hti := hT t ti ht
    simp only [S.ok] at ha
    subst ha
    split at hl
    · rename_i hag
      split at hl
      case h_2 => cases hl
      rename_i r' hg
      simp only [Option.some.injEq] at hl
      subst hl
      obtain ⟨vs, h1, h2, h3⟩ := far_ok H hg
      exact load_all hti hag h1 h2 h3
    · rename_i hag
      split at hl
      case h_2 => cases hl
      rename_i x hg
      split at hl
      case isFalse => cases hl
      simp only [Option.some.injEq] at hl
      subst hl
      obtain ⟨vs, h1, h2, h3⟩ := far_ok H hg
      exact load_one hti hag h1 h3

theorem setCells_heap {b : Nat} (T : TypeId) (us : List Value) : ∀ {w : World} {cs : List Value} (o : Nat), w.heap[b]? = some (.cells cs.toArray T (0, 0)) → o + us.length ≤ cs.length → (w.setCells b o us).heap[b]? = some (.cells (cs.take o ++ us ++ cs.drop (o + us.length)).toArray T (0, 0)) := by
  induction us with
  | nil => intro w cs o hb _; simpa [World.setCells] using hb
  | cons v us ih =>
    intro w cs o hb ho
    simp only [List.length_cons] at ho
    rw [← splice_cons cs o v us (by omega)]
    refine ih (o + 1) ?_ (by simp; omega)
    have hlt := lt_of_blk hb
    have hb' : w.heap[b] = .cells cs.toArray T (0, 0) := by simpa [Array.getElem?_eq_getElem hlt] using hb
    show (w.heap.modify b _)[b]? = _
    rw [Array.getElem?_eq_getElem (by simpa using hlt), Array.getElem_modify_self, hb']
    simp
theorem setCells_upd {b : Nat} (us : List Value) : ∀ (w : World) (o : Nat), Upd [b] w (w.setCells b o us) := by
  induction us with
  | nil => intro w o; exact Upd.refl _ _
  | cons v us ih => intro w o; exact ((Upd.refl [b] w).setCell ⟨b, o, none⟩ v (Or.inl (by simp))).trans (ih _ (o + 1))
theorem run_storeAt {t : TypeId} {ti : TI} (hti : TIOk P t ti) {b o : Nat} {T : TypeId} {full : List Value} {v : Value} (hb : w.heap[b]? = some (.cells full.toArray T (0, 0))) (hl : v.cells.toList.length = ti.size) (h1 : ∀ u ∈ v.cells.toList, u.oneCell' = true) (ho : o + v.cells.toList.length ≤ full.length) :
    (Instr.storeAt t (.pointer (some ⟨b, o, none⟩)) v).run P w = .ok () (w.setCells b o v.cells.toList) := by
  have hst := run_storeCells_cells (P := P) b o v.cells.toList 0 w
    (fun j hj => by simp only [World.cell?, hb]; simp; simp at hj ho; omega)
    (fun j hj => by simp [World.frozen?, hb]) h1
  have hs : ¬ v.cells.size ≠ ti.size := by rw [← hl]; simp
  simp only [Nat.add_zero] at hst
  simp only [Instr.storeAt, Instr.sureAddr, storeVar, Sem.run_bind, Sem.run_pure, Result.andThen_ok, run_size hti, if_neg hs, hst]
theorem take_splice {full us : List Value} {off k : Nat} (h : off + us.length ≤ k) (hk : k ≤ full.length) : (full.take off ++ us ++ full.drop (off + us.length)).take k = (full.take k).take off ++ us ++ (full.take k).drop (off + us.length) := by
  have e1 : full.take off = (full.take k).take off := by rw [List.take_take, Nat.min_eq_left (by omega)]
  have e2 : full.drop (off + us.length) = (full.take k).drop (off + us.length) ++ full.drop k := by
    conv => lhs; rw [← List.take_append_drop k full]
    rw [List.drop_append_of_le_length (by simp; omega)]
  rw [e1, e2, ← List.append_assoc]
  exact List.take_left' (by simp; omega)
theorem storeS_sound (hT : TOk P tt) (H : HOk W w0 S0 ν h w) {t : TypeId} {a x : S} {av xv : Value} {h' : List Ob} (hs : storeS tt t a x h = some h') (ha : a.ok h.length ν av) (hx : x.ok h.length ν xv) :
    ∃ w', (Instr.storeAt t av xv).run P w = .ok () w' ∧ HOk W w0 S0 ν h' w' ∧ h'.length = h.length := by
  unfold storeS at hs
  split at hs
  case h_3 => cases hs
  · rename_i id i sz off
    split at hs
    case h_2 => cases hs
    rename_i ti ht
    have hti := hT t ti ht
    split at hs
    case isFalse => cases hs
    rename_i hsz
    split at hs
    case h_2 => cases hs
    rename_i T ks xs hon hO
    split at hs
    case h_2 => cases hs
    rename_i xs' hbeq hput
    simp only [Option.some.injEq] at hs
    subst hs
    have hbeq := Nat.eq_of_beq_eq_true hbeq
    subst hbeq
    simp only [S.ok] at ha
    obtain ⟨hid, hlt, rfl⟩ := ha
    obtain ⟨hc, h1⟩ := cs_ok hon hx
    have hcl := oks_len hc
    have ho : h[id]? = some (.nrow T ks xs) := by
      rcases getO_spec h id with ho | ho
      · rw [hO] at ho; exact ho
      · rw [hO] at ho; cases ho
    obtain ⟨hlen, hob⟩ := H.ob id _ ho
    have hi : i < xs.length := by omega
    have hlen' := putE_len hput
    have hown : (Ob.nrow T ks xs).own = true := by cases xs with | nil => simp at hi | cons => rfl
    have hown' : (Ob.nrow T ks xs').own = true := by cases xs' with | nil => simp at hlen'; omega | cons => rfl
    have hob : (ν id).base = 0 ∧ ∃ vs cur, oks h.length ν (rowC ks xs) vs ∧ w.heap[(ν id).blk]? = some (.cells cur T (0, 0)) ∧ xs.length ≤ (ν id).cap ∧ (ν id).cap ≤ maxLen ∧ cur.size = (ν id).cap * ks.length ∧ cur.toList.take (xs.length * ks.length) = vs ∧ vs.length = xs.length * ks.length := by
      cases xs with | nil => simp at hi | cons => exact hob
    obtain ⟨hb0, vs, cur, h2, h3, h4, h5, h6, h7, h8⟩ := hob
    have h3' : w.heap[(ν id).blk]? = some (.cells cur.toList.toArray T (0, 0)) := by simpa using h3
    have hgt := putE_get hput hi
    have hm := mul_lt (sz := ks.length) hi
    have hcap := Nat.mul_le_mul_right ks.length h4
    have hlenc : cur.toList.length = (ν id).cap * ks.length := by simpa using h6
    -- what is stored lies within the element
    have hoff : x.cs.length = 0 ∨ off + x.cs.length ≤ ks.length := by
      rcases Nat.eq_zero_or_pos x.cs.length with hz | hz
      · exact Or.inl hz
      · rcases hgt i (off + (x.cs.length - 1)) with ⟨_, _, _, k, s, g1, _⟩ | ⟨g1, _⟩
        · have := (List.getElem?_eq_some_iff.1 g1).1
          exact Or.inr (by omega)
        · exact absurd ⟨rfl, by omega, by omega⟩ g1
    have hn : xv.cells.toList.length = x.cs.length := hcl
    by_cases hzero : x.cs.length = 0
    · -- nothing is stored
      have hz0 : xv.cells.toList = [] := List.eq_nil_of_length_eq_zero (by omega)
      have hxs : xs' = xs := by
        have : x.cs = [] := List.eq_nil_of_length_eq_zero hzero
        rw [this] at hput
        simp only [putE, Option.some.injEq] at hput
        exact hput.symm
      subst hxs
      refine ⟨w, ?_, ?_, by simp [setO_eq]⟩
      · have hst := run_storeCells_cells (P := P) (ν id).blk ((ν id).base + (i * ks.length + off)) xv.cells.toList 0 w (fun j hj => by rw [hz0] at hj; simp at hj) (fun j hj => by rw [hz0] at hj; simp at hj) h1
        have hs : ¬ xv.cells.size ≠ ti.size := by rw [← hsz, ← hn]; simp
        rw [hz0] at hst
        simp only [Instr.storeAt, Instr.sureAddr, storeVar, Sem.run_bind, Sem.run_pure, Result.andThen_ok, run_size hti, if_neg hs, hz0]
        exact hst
      · rw [setO_eq]
        have : h.set id (.nrow T ks xs') = h := by
          apply List.ext_getElem?
          intro j
          by_cases hj : j = id
          · subst hj; rw [List.getElem?_set_self hid, ho]
          · rw [List.getElem?_set_ne (fun e => hj e.symm)]
        rw [this]; exact H
    have hoff := hoff.resolve_left hzero
    have hset := setCells_heap T xv.cells.toList (i * ks.length + off) h3' (by omega)
    have hspl := take_splice (full := cur.toList) (us := xv.cells.toList) (off := i * ks.length + off) (k := xs.length * ks.length) (by omega) (by omega)
    rw [setO_eq]
    refine ⟨_, ?_, H.put (.nrow T ks xs') ho hown hown' (setCells_upd xv.cells.toList w (i * ks.length + off)) ⟨by rw [hlen']; exact hlen, ?_⟩, by simp⟩
    · rw [hb0, Nat.zero_add]
      exact run_storeAt hti h3' (by omega) h1 (by omega)
    · have hfin : (ν id).base = 0 ∧ ∃ vs cur, oks h.length ν (rowC ks xs') vs ∧ (w.setCells (ν id).blk (i * ks.length + off) xv.cells.toList).heap[(ν id).blk]? = some (.cells cur T (0, 0)) ∧ xs'.length ≤ (ν id).cap ∧ (ν id).cap ≤ maxLen ∧ cur.size = (ν id).cap * ks.length ∧ cur.toList.take (xs'.length * ks.length) = vs ∧ vs.length = xs'.length * ks.length := by
        refine ⟨hb0, vs.take (i * ks.length + off) ++ xv.cells.toList ++ vs.drop (i * ks.length + off + xv.cells.toList.length), _, ?_, hset, by rw [hlen']; exact h4, h5, ?_, ?_, ?_⟩
        · refine oks_ext (by rw [rowC_len, hlen']; simp only [List.length_append, List.length_take, List.length_drop]; omega) fun p c v hp hv => ?_
          have hp1 : p < xs'.length * ks.length := by
            have := (List.getElem?_eq_some_iff.1 hp).1
            rwa [rowC_len] at this
          have hkpos : 0 < ks.length := by
            rcases Nat.eq_zero_or_pos ks.length with hz | hz
            · rw [hz] at hp1; simp at hp1
            · exact hz
          have hq : p / ks.length < xs'.length := (Nat.div_lt_iff_lt_mul hkpos).2 hp1
          have hr : p % ks.length < ks.length := Nat.mod_lt _ hkpos
          have hpe : p / ks.length * ks.length + p % ks.length = p := by rw [Nat.mul_comm]; exact Nat.div_add_mod p ks.length
          have hp2 : (rowC ks xs')[p]? = (ks[p % ks.length]?).map fun k => kdc k (elI xs' (p / ks.length) (p % ks.length)) := by
            have := rowC_get ks xs' (p / ks.length) (p % ks.length) hq hr
            rwa [hpe] at this
          have hp3 : (rowC ks xs)[p]? = (ks[p % ks.length]?).map fun k => kdc k (elI xs (p / ks.length) (p % ks.length)) := by
            have := rowC_get ks xs (p / ks.length) (p % ks.length) (by omega) hr
            rwa [hpe] at this
          rw [hp2] at hp
          have hkk : ks[p % ks.length]? = some ks[p % ks.length] := List.getElem?_eq_getElem hr
          rw [hkk] at hp hp3
          simp only [Option.map_some, Option.some.injEq] at hp hp3
          subst hp
          rcases hgt (p / ks.length) (p % ks.length) with ⟨g1, g2, g3, k, s, g4, g5, g6⟩ | ⟨g1, g2⟩
          · rw [hkk] at g4
            simp only [Option.some.injEq] at g4
            subst g4
            have hpo : p = i * ks.length + off + (p % ks.length - off) := by rw [← g1]; omega
            rw [hpo] at hv
            rw [List.append_assoc, List.getElem?_append_right (by simp only [List.length_take]; omega), List.length_take, show i * ks.length + off + (p % ks.length - off) - min (i * ks.length + off) vs.length = p % ks.length - off by omega, List.getElem?_append_left (by omega)] at hv
            exact numS_ok g6 (oks_at hc g5 hv)
          · rw [g2]
            refine oks_at h2 hp3 ?_
            by_cases hlo : p < i * ks.length + off
            · rw [List.append_assoc, List.getElem?_append_left (by simp only [List.length_take]; omega), List.getElem?_take, if_pos hlo] at hv
              exact hv
            · by_cases hhi : p < i * ks.length + off + xv.cells.toList.length
              · refine absurd ⟨?_, ?_, ?_⟩ g1
                · have e1 : p / ks.length < i + 1 := (Nat.div_lt_iff_lt_mul hkpos).2 (by rw [Nat.succ_mul]; omega)
                  have e2 : i ≤ p / ks.length := (Nat.le_div_iff_mul_le hkpos).2 (by omega)
                  omega
                · have e1 : p / ks.length < i + 1 := (Nat.div_lt_iff_lt_mul hkpos).2 (by rw [Nat.succ_mul]; omega)
                  have e2 : i ≤ p / ks.length := (Nat.le_div_iff_mul_le hkpos).2 (by omega)
                  have e3 : p / ks.length = i := by omega
                  rw [e3] at hpe
                  omega
                · have e1 : p / ks.length < i + 1 := (Nat.div_lt_iff_lt_mul hkpos).2 (by rw [Nat.succ_mul]; omega)
                  have e2 : i ≤ p / ks.length := (Nat.le_div_iff_mul_le hkpos).2 (by omega)
                  have e3 : p / ks.length = i := by omega
                  rw [e3] at hpe
                  omega
              · rw [List.getElem?_append_right (by simp only [List.length_append, List.length_take]; omega)] at hv
                simp only [List.length_append, List.length_take] at hv
                rw [List.getElem?_drop, show i * ks.length + off + xv.cells.toList.length + (p - (min (i * ks.length + off) vs.length + xv.cells.toList.length)) = p by omega] at hv
                exact hv
        · simp only [← Array.length_toList, List.length_append, List.length_take, List.length_drop]
          omega
        · rw [hlen', hspl, h7]
        · rw [hlen']
          simp only [List.length_append, List.length_take, List.length_drop]
          omega
      cases xs' with
      | nil => trivial
      | cons => exact hfin
  rename_i id off
  split at hs
  case h_2 => cases hs
  rename_i ti ht
  have hti := hT t ti ht
  split at hs
  case isFalse => cases hs
  rename_i hsz
  split at hs
  case h_2 => cases hs
  rename_i hon
  split at hs
  case h_2 => cases hs
  rename_i o' hput
  simp only [Option.some.injEq] at hs
  subst hs
  simp only [S.ok] at ha
  obtain ⟨hid, rfl⟩ := ha
  obtain ⟨hc, h1⟩ := cs_ok hon hx
  have hcl := oks_len hc
  rw [setO_eq]
  have ho : h[id]? = some (getO h id) := by
    rcases getO_spec h id with ho | ho
    · exact ho
    · rw [ho] at hput; simp [putOb] at hput
  have hob := H.ob id _ ho
  generalize getO h id = o at ho hput hob
  cases o with
  | cells T cs =>
    simp only [putOb] at hput
    split at hput
    case h_2 => cases hput
    rename_i r hr
    simp only [Option.some.injEq] at hput
    subst hput
    obtain ⟨rfl, hle⟩ := putL_spec hr
    obtain ⟨hb0, vs, h2, h3⟩ := hob
    have hl := oks_len h2
    refine ⟨_, ?_, H.put (.cells T _) ho rfl rfl (setCells_upd xv.cells.toList w off) ⟨hb0, _, ?_, setCells_heap T xv.cells.toList off h3 (by omega)⟩, by simp⟩
    · rw [hb0, Nat.zero_add]
      exact run_storeAt hti h3 (by omega) h1 (by simp only [NN.val]; omega)
    · rw [hcl]
      exact oks_append (oks_append (oks_take _ h2) hc) (oks_drop _ h2)
  | row T sz n cs =>
    cases n with
    | v n => simp [putOb] at hput
    | l n =>
    simp only [putOb] at hput
    split at hput
    case h_2 => cases hput
    rename_i r hr
    simp only [Option.some.injEq] at hput
    subst hput
    obtain ⟨rfl, hle⟩ := putL_spec hr
    obtain ⟨hb0, vs, cur, h2, h3, h4, h5, h6, h7, h8, h9⟩ := hob
    have hl := oks_len h2
    have h3' : w.heap[(ν id).blk]? = some (.cells cur.toList.toArray T (0, 0)) := by simpa using h3
    have hlen : vs.length ≤ cur.toList.length := by rw [← h7]; simp only [List.length_take]; omega
    have hset := setCells_heap T xv.cells.toList off h3' (by omega)
    refine ⟨_, ?_, H.put (.row T sz (.l n) _) ho rfl rfl (setCells_upd xv.cells.toList w off) ⟨hb0, vs.take off ++ xv.cells.toList ++ vs.drop (off + xv.cells.toList.length), _, ?_, hset, h4, h5, ?_, ?_, ?_, h9⟩, by simp⟩
    · rw [hb0, Nat.zero_add]
      exact run_storeAt hti h3' (by omega) h1 (by simp only [NN.val]; omega)
    · rw [hcl]
      exact oks_append (oks_append (oks_take _ h2) hc) (oks_drop _ h2)
    · rw [← h6]
      simp only [List.length_append, List.length_take, List.length_drop, ← Array.length_toList]
      omega
    · have h8' : vs.length = n * sz := h8
      rw [← h7]
      exact take_splice (by omega) (by omega)
    · have h8' : vs.length = n * sz := h8
      simp only [List.length_append, List.length_take, List.length_drop, NN.val]
      omega
  | nrow T ks xs => simp [putOb] at hput
  | rowT T sz n cs => simp [putOb] at hput
  | opt x T cs => simp [putOb] at hput
  | nwin ks xs => simp [putOb] at hput
  | win cs => simp [putOb] at hput
  | mapo ks vs => simp [putOb] at hput
  | orc l => simp [putOb] at hput
  | dead => simp [putOb] at hput
theorem run_alloc {t : TypeId} {ti : TI} (hti : TIOk P t ti) : ∃ vs, (∀ m ν, oks m ν ti.zero vs) ∧ vs.length = ti.size ∧ ∀ w, (Instr.alloc t true (.tuple #[])).run P w = .ok (.pointer (some ⟨w.heap.size, 0, none⟩)) (w.alloc (.cells vs.toArray t (0, 0))) := by
  obtain ⟨z, vs, h1, h2, h3⟩ := run_zero hti
  refine ⟨vs, h2, by rw [oks_len (h2 0 fun _ => ⟨0, 0, 0, 0⟩), hti.zl], fun w => ?_⟩
  simp [Instr.alloc, h3, newVar, newRow, newObj, Sem.run, h1]
theorem run_box {t : TypeId} {v : Value} (w : World) : (Instr.box t v).run P w = .ok (.pointer (some ⟨w.heap.size, 0, none⟩)) (w.alloc (.cells v.cells t (0, 0))) := by
  simp [Instr.box, newVar, newRow, newObj, Sem.run]

theorem reps_ok {m : Nat} {ν : Nat → Env} {z : List S} {zs : List Value} (h : oks m ν z zs) : ∀ n, ∃ vs, oks m ν (reps z n) vs ∧ vs = (List.replicate n zs).flatten
  | 0 => ⟨[], oks_nil, by simp⟩
  | n + 1 => by
    obtain ⟨vs, h1, rfl⟩ := reps_ok h n
    exact ⟨zs ++ (List.replicate n zs).flatten, oks_append h h1, by simp [List.replicate_succ]⟩
theorem range_mod (zs : List Value) (n : Nat) (hz : zs ≠ []) : (Array.range (n * zs.length)).map (fun i => zs.toArray[i % zs.toArray.size]!) = (List.replicate n zs).flatten.toArray := by
  apply Array.toList_inj.1
  have hpos : 0 < zs.length := List.length_pos_iff.2 hz
  apply List.ext_getElem
  · simp
  · intro i h1 h2
    simp only [Array.toList_map, Array.toList_range, List.getElem_map, List.getElem_range]
    have hi : i < n * zs.length := by simpa using h1
    have hm : i % zs.length < zs.length := Nat.mod_lt _ hpos
    have key : ∀ (n i : Nat) (h : i < ((List.replicate n zs).flatten).length), ((List.replicate n zs).flatten)[i] = zs[i % zs.length]'(Nat.mod_lt _ hpos) := by
      intro n
      induction n with
      | zero => intro i h; simp at h
      | succ n ih =>
        intro i h
        simp only [List.replicate_succ, List.flatten_cons, List.getElem_append]
        split
        · rename_i hlt; congr 1; exact (Nat.mod_eq_of_lt hlt).symm
        · rename_i hge
          rw [ih]
          congr 1
          conv => rhs; rw [← Nat.sub_add_cancel (Nat.le_of_not_lt hge)]
          simp
    have h3 := key n i (by simpa using h2)
    simp only [List.size_toArray, List.getElem!_toArray]
    rw [getElem!_pos zs _ hm]
    exact h3.symm
theorem foldl_size (off : Nat) : ∀ (l : List (Value × Nat)) (c : Array Value), (l.foldl (fun (a : Array Value) (x : Value × Nat) => a.setIfInBounds (off + x.2) x.1) c).size = c.size
  | [], c => rfl
  | x :: l, c => by simp only [List.foldl_cons]; rw [foldl_size off l]; simp
theorem buildSl_sound (hT : TOk P tt) {t : TypeId} {len : Nat} {ps : Array (Nat × Operand)} {ev : Operand → S} {ρ : Operand → Value} {e : TypeId} {sz : Nat} {cs : List S} (hev : ∀ x, (ev x).ok h.length ν (ρ x)) (hb : buildSl tt t len (ps.toList.map fun x => (x.1, ev x.2)) = some (e, sz, cs)) :
    ∃ vs, oks h.length ν cs vs ∧ vs.length = len * sz ∧ len ≤ maxLen ∧ ∀ w, (Instr.buildSlice t len (ps.map fun (i, x) => (i, ρ x))).run P w = .ok (.slice (some ⟨w.heap.size, 0, none⟩) len len) (w.alloc (.cells vs.toArray e (0, 0))) := by
  unfold buildSl at hb
  split at hb
  case h_2 => cases hb
  rename_i ti ht
  have hd := (hT t ti ht).desc
  split at hb
  case h_2 => cases hb
  rename_i e' hdd
  simp only [hdd] at hd
  split at hb
  case h_2 => cases hb
  rename_i te hte
  have hte' := hT e' te hte
  split at hb
  case isFalse => cases hb
  rename_i hle
  split at hb
  case h_2 => cases hb
  rename_i cs' hf
  simp only [Option.some.injEq, Prod.mk.injEq] at hb
  obtain ⟨rfl, rfl, rfl⟩ := hb
  obtain ⟨z, zs, hz, hzo, hzr⟩ := run_zero hte'
  have hzl : zs.length = te.size := by rw [oks_len (hzo 0 fun _ => ⟨0, 0, 0, 0⟩), hte'.zl]
  obtain ⟨rs, h1, h2⟩ := reps_ok (hzo h.length ν) len
  obtain ⟨us, h3, h4⟩ := fillS_ok hev ps.toList hf h1
  have hul : us.length = len * te.size := by
    have hsz : ∀ (place : Nat → Option (Nat × Nat)) (ps : List (Nat × Value)) (c r : Array Value), Instr.fill place c ps = some r → r.size = c.size := by
      intro place ps
      induction ps with
      | nil => intro c r h; simp only [Instr.fill, Option.some.injEq] at h; rw [h]
      | cons p ps ih =>
        intro c r h
        obtain ⟨i, v⟩ := p
        simp only [Instr.fill] at h
        split at h
        · cases h
        · split at h
          · cases h
          · rw [ih _ _ h]
            rw [← Array.foldl_toList]
            exact foldl_size _ _ _
    have := hsz _ _ _ _ h4
    rw [h2] at this
    simpa [hzl] using this
  rw [Nat.mul_succ] at hle
  refine ⟨us, h3, hul, Nat.le_trans (by omega : len ≤ 16777216) (by decide), fun w => ?_⟩
  have hcell : (if len * te.size = 0 then (#[] : Array Value) else z.cells) = (if len * te.size = 0 then #[] else zs.toArray) := by rw [hz]
  by_cases h0 : len * te.size = 0
  · have hr0 : rs = [] := by
      have : rs.length = 0 := by rw [h2]; simpa [hzl] using h0
      exact List.length_eq_zero_iff.1 this
    rw [hr0] at h4
    simp only [Instr.buildSlice, Sem.run_bind, run_underlying hd, Result.andThen_ok, run_size hte', h0, if_true, map_pairs]
    have e1 : ∀ f : Nat → Value, (Array.range 0).map f = #[] := by intro f; simp
    simp only [e1]
    simp [h4, newRow, newObj, Sem.run]
  · have hzn : zs ≠ [] := by
      intro hn; rw [hn] at hzl; simp at hzl; rw [← hzl] at h0; simp at h0
    have hrm := range_mod zs len hzn
    rw [← h2, hzl] at hrm
    have hzsz : z.cells = zs.toArray := hz
    simp only [Instr.buildSlice, Sem.run_bind, run_underlying hd, Result.andThen_ok, run_size hte', show ¬ (len * te.size > 2 ^ 24) by omega, if_false, h0, hzr, Sem.run_pure, map_pairs, hzsz, hrm, h4]
    simp [newRow, newObj, Sem.run]

theorem makeSl_sound (hT : TOk P tt) {t : TypeId} {n m : Nat} {ν : Nat → Env} {e : TypeId} {sz : Nat} {cs : List S} (hb : makeSl tt t n = some (e, sz, cs)) :
    ∃ vs, oks m ν cs vs ∧ vs.length = n * sz ∧ n ≤ maxLen ∧ ∀ kl kc w, (Instr.makeSlice t (.int kl (n : Int)) (.int kc (n : Int))).run P w = .ok (.slice (some ⟨w.heap.size, 0, none⟩) n n) (w.alloc (.cells vs.toArray e (0, 0))) := by
  unfold makeSl at hb
  split at hb
  case h_2 => cases hb
  rename_i ti ht
  have hd := (hT t ti ht).desc
  split at hb
  case h_2 => cases hb
  rename_i e' hdd
  simp only [hdd] at hd
  split at hb
  case h_2 => cases hb
  rename_i te hte
  have hte' := hT e' te hte
  split at hb
  case h_2 => cases hb
  rename_i h1 h2 h3
  simp only [Option.some.injEq, Prod.mk.injEq] at hb
  obtain ⟨rfl, rfl, rfl⟩ := hb
  have h1 := Nat.le_of_ble_eq_true h1
  have h2 := Nat.le_of_ble_eq_true h2
  have h3 := Nat.le_of_ble_eq_true h3
  obtain ⟨i, z, zs, i1, i2, i3, i4, i5, i6, _⟩ := hte'.info
  have hzl : zs.length = te.size := by rw [oks_len (i6 0 fun _ => ⟨0, 0, 0, 0⟩), hte'.zl]
  obtain ⟨rs, r1, r2⟩ := reps_ok (i6 m ν) n
  have hzn : zs ≠ [] := by
    intro hn; rw [hn] at hzl; simp at hzl; omega
  have hn1 : n ≤ n * (te.size + 1) := Nat.le_mul_of_pos_right n (by omega)
  have hml : n ≤ maxLen := Nat.le_trans (by omega : n ≤ 16777216) (by decide)
  refine ⟨rs, r1, by rw [r2]; simp [hzl], hml, fun kl kc w => ?_⟩
  have hby : (i.bytes : Int) * (n : Int) ≤ 281474976710656 := by
    have h4 : ((te.bytes * n : Nat) : Int) ≤ 281474976710656 := by rw [Nat.mul_comm]; omega
    rw [i3, ← Int.natCast_mul]; exact h4
  have h := run_make (P := P) w t e' i z hd i1 i4 kl kc (n : Int) (n : Int) (by omega) (Int.le_refl _) hby (by omega)
  rw [h]
  have hm : madeCells z.cells ((n : Int).toNat * i.size) = rs.toArray := by
    unfold madeCells
    rw [Int.toNat_natCast, i2, i5, r2, ← hzl]
    exact range_mod zs n hzn
  rw [hm, Int.toNat_natCast]
theorem run_append_zero {t e : TypeId} {te : TI} (ht : P.underlying t = some (.slice e)) (hte : TIOk P e te) (ty : TypeId) (b : Option Addr) (n c : Nat) (hn : n ≤ c) (yb : Option Addr) (yc : Nat) (w : World) :
    (Builtin.append_ #[t, t] ty #[.slice b n c, .slice yb 0 yc]).run P w = .ok (.slice b n c) w := by
  cases b <;> cases yb <;> simp [Builtin.append_, run_underlying ht, run_size hte, Builtin.lenOf, Builtin.firstCells, hn, loadCells, loadCellsFrom, storeCells]
theorem run_append_cap0 {t e : TypeId} {te : TI} (ht : P.underlying t = some (.slice e)) (hte : TIOk P e te) (ty : TypeId) (b a : Addr) (m c : Nat) (hm : m ≠ 0) (hb : m * te.bytes ≤ 140737488355328) (w : World) :
    (Builtin.append_ #[t, t] ty #[.slice (some b) 0 0, .slice (some a) m c]).run P w = (Builtin.append_ #[t, t] ty #[.slice none 0 0, .slice (some a) m c]).run P w := by
  obtain ⟨i, z, vs, h1, h2, h3, h4, _⟩ := hte.info
  have hc : ¬ (Builtin.nextslicecap m 0 * i.bytes > 2 ^ 48) := by
    have : Builtin.nextslicecap m 0 = m := by unfold Builtin.nextslicecap; rw [if_pos (by omega)]
    rw [this, h3]; omega
  simp [Builtin.append_, run_underlying ht, sizeOf, typeInfo, h1, h2, Builtin.lenOf, hm, Builtin.firstCells, loadCells, loadCellsFrom, hc]
theorem beq_cast (x y : Nat) : (((x : Int) == (y : Int)) : Bool) = decide (x = y) := by
  by_cases h : x = y
  · simp [h]
  · simp [h]; omega
theorem eqN_std (a b : NN) : eqN (std W) a b = decide (a.val = b.val) := by
  cases a <;> cases b <;> simp only [eqN, NN.val, std, stdB, NN.z_eq]
  · rename_i x y; by_cases h : x = y <;> simp [h]
  all_goals exact beq_cast _ _
theorem newsS_ok (H : HOk W w0 S0 ν h w) {sz : Nat} {y : S} {v : Value} {n : NN} {r : List S} (hn : newsS (std W) sz y h = some (n, r)) (hy : y.ok h.length ν v) :
    ∃ b c us, v = .slice b n.val c ∧ oks h.length ν r us ∧ us.length = n.val * sz ∧ (∀ u ∈ us, u.oneCell' = true) ∧ (n.val = 0 ∨ ∃ a, b = some a ∧ ∀ j u, us[j]? = some u → w.cell? (a.add j) = some u) := by
  unfold newsS at hn
  split at hn
  · rename_i id off len c
    split at hn
    case h_2 => cases hn
    rename_i r' hg
    split at hn
    case h_2 => cases hn
    rename_i hon
    simp only [Option.some.injEq, Prod.mk.injEq] at hn
    obtain ⟨rfl, rfl⟩ := hn
    obtain ⟨vs, h1, h2, h3⟩ := getC_ok H hg
    simp only [S.ok] at hy
    obtain ⟨_, _, _, a, rfl, ha⟩ := hy
    have ha := ha (Or.inl trivial)
    subst ha
    refine ⟨_, _, vs, rfl, h1, by rw [h2, mulN_val], ones_ok hon h1, Or.inr ⟨_, rfl, fun j u hu => ?_⟩⟩
    rw [add_addr]
    exact h3 j u hu
  · split at hn
    · simp only [Option.some.injEq, Prod.mk.injEq] at hn
      obtain ⟨rfl, rfl⟩ := hn
      simp only [S.ok] at hy
      subst hy
      exact ⟨_, _, [], rfl, oks_nil, by simp [NN.val], by simp, Or.inl rfl⟩
    · rename_i b o n c
      split at hn
      case h_2 => cases hn
      rename_i r' hg
      split at hn
      case h_2 => cases hn
      rename_i hon
      simp only [Option.some.injEq, Prod.mk.injEq] at hn
      obtain ⟨rfl, rfl⟩ := hn
      obtain ⟨vs, h1, h2, h3⟩ := far_ok H hg
      simp only [S.ok] at hy
      subst hy
      refine ⟨_, _, vs, rfl, h1, by rw [h2, mulN_val], ones_ok hon h1, Or.inr ⟨_, rfl, fun j u hu => ?_⟩⟩
      rw [add_addr]
      exact h3 j u hu
    · cases hn
  · cases hn
theorem catS_eq (lit : Bool) (a b : List S) : catS (std W) lit a b = a ++ b := by cases lit <;> rfl
theorem numsK_ok : ∀ {ks : List Kd} {cs : List S} {r : List Int} {q : List S} {m : Nat} {ν : Nat → Env} {vs : List Value}, numsK ks cs = some (r, q) → oks m ν cs vs → ∃ us ws, vs = us ++ ws ∧ us.length = ks.length ∧ oks m ν (recC ks r) us ∧ oks m ν q ws
  | [], cs, r, q, m, ν, vs, h, hv => by
    simp only [numsK, Option.some.injEq, Prod.mk.injEq] at h
    obtain ⟨rfl, rfl⟩ := h
    exact ⟨[], vs, rfl, rfl, oks_nil, hv⟩
  | k :: ks, [], r, q, m, ν, vs, h, hv => by simp [numsK] at h
  | k :: ks, c :: cs, r, q, m, ν, vs, h, hv => by
    unfold numsK at h
    split at h
    case h_2 => cases h
    rename_i n hn
    split at h
    case h_2 => cases h
    rename_i r' q' hr
    simp only [Option.some.injEq, Prod.mk.injEq] at h
    obtain ⟨rfl, rfl⟩ := h
    simp only [S.oks] at hv
    obtain ⟨v, vs', rfl, h1, h2⟩ := hv
    obtain ⟨us, ws, rfl, g1, g2, g3⟩ := numsK_ok hr h2
    exact ⟨v :: us, ws, rfl, by simp [g1], oks_cons (numS_ok hn h1) g2, g3⟩
theorem parseR_ok {ks : List Kd} : ∀ {n : Nat} {cs : List S} {ys : List (List Int)} {m : Nat} {ν : Nat → Env} {vs : List Value}, parseR ks n cs = some ys → oks m ν cs vs → ys.length = n ∧ oks m ν (rowC ks ys) vs
  | 0, [], ys, m, ν, vs, h, hv => by
    simp only [parseR, Option.some.injEq] at h
    subst h
    exact ⟨rfl, hv⟩
  | 0, _ :: _, ys, m, ν, vs, h, hv => by simp [parseR] at h
  | n + 1, cs, ys, m, ν, vs, h, hv => by
    unfold parseR at h
    split at h
    case h_2 => cases h
    rename_i r q hr
    split at h
    case h_2 => cases h
    rename_i l hl
    simp only [Option.some.injEq] at h
    subst h
    obtain ⟨us, ws, rfl, g1, g2, g3⟩ := numsK_ok hr hv
    obtain ⟨h1, h2⟩ := parseR_ok hl g3
    exact ⟨by simp [h1], oks_append g2 h2⟩
theorem rowC_append (ks : List Kd) : ∀ (xs ys : List (List Int)), rowC ks (xs ++ ys) = rowC ks xs ++ rowC ks ys
  | [], ys => rfl
  | x :: xs, ys => by simp only [List.cons_append, rowC, rowC_append ks xs ys, List.append_assoc]
theorem recC_one : ∀ {ks : List Kd} {r : List Int}, ones (recC ks r) = true
  | [], r => rfl
  | k :: ks, r => by
    have : (kdc k (r.headD 0)).one = true := by cases k <;> rfl
    simp only [recC, ones, this]; exact recC_one
theorem ones_append : ∀ {a b : List S}, ones a = true → ones b = true → ones (a ++ b) = true
  | [], b, _, h => h
  | x :: a, b, h1, h2 => by
    simp only [ones] at h1
    split at h1
    · rename_i hx; simp only [List.cons_append, ones, hx]; exact ones_append h1 h2
    · cases h1
theorem rowC_one {ks : List Kd} : ∀ {xs : List (List Int)}, ones (rowC ks xs) = true
  | [] => rfl
  | _ :: _ => ones_append recC_one rowC_one
theorem bytes_le {b k : Nat} (hk : k * (b + 1) ≤ 140737488355328) : k * b ≤ 140737488355328 ∧ k ≤ maxLen := by
  rw [Nat.mul_succ] at hk
  have : (140737488355328 : Nat) ≤ maxLen := by decide
  omega
theorem app_fresh (H : HOk W w0 S0 ν h w) {t ty e : TypeId} {te : TI} (hd : P.underlying t = some (.slice e)) (hte' : TIOk P e te) (hsz0 : ¬ te.size = 0) (xa : Option Addr) {m yc : Nat} {yb : Option Addr} {us : List Value} (h0' : m ≠ 0) (hu2 : us.length = m * te.size) (hu3 : ∀ u ∈ us, u.oneCell' = true) (hu4 : m = 0 ∨ ∃ a, yb = some a ∧ ∀ j u, us[j]? = some u → w.cell? (a.add j) = some u) (hb1 : m * te.bytes ≤ 140737488355328) (hb2 : m ≤ maxLen) :
    ∃ g cap cur w', (Builtin.append_ #[t, t] ty #[.slice xa 0 0, .slice yb m yc]).run P w = .ok (.slice (some ⟨g, 0, none⟩) m cap) w' ∧ w.heap.size ≤ g ∧ w'.heap[g]? = some (.cells cur e (0, 0)) ∧ m ≤ cap ∧ cap ≤ maxLen ∧ cur.size = cap * te.size ∧ cur.toList.take (m * te.size) = us ∧ HOk W w0 S0 ν h w' ∧ ∀ i (o : Ob), h[i]? = some o → o.own = true → (ν i).blk ≠ g := by
  obtain ⟨i, z, zs, hi1, hi2, hi3, hi4, hi5, hi6⟩ := hte'.info
  have hzs : z.cells.size = te.size := by rw [hi5]; simp [oks_len (hi6.1 0 fun _ => ⟨0, 0, 0, 0⟩), hte'.zl]
  obtain ⟨a, rfl, hcell⟩ := hu4.resolve_left h0'
  have hrw : (Builtin.append_ #[t, t] ty #[.slice xa 0 0, .slice (some a) m yc]).run P w = (Builtin.append_ #[t, t] ty #[.slice none 0 0, .slice (some a) m yc]).run P w := by
    cases xa with
    | none => rfl
    | some b => exact run_append_cap0 hd hte' ty b a m yc h0' hb1 w
  rw [hrw]
  obtain ⟨v', w', hrun, hown, hgrow, hnil⟩ := run_append_own (P := P) w w.heap.size t ty e i z te.size te.bytes hd hi1 hi4 hi2 hi3 hzs (by omega) (.slice none 0 0) 0 [] ⟨by simp, Or.inl ⟨rfl, rfl⟩⟩ a m yc us hu2 hcell hu3 (by omega) (by simpa using hb1) (Nat.le_refl _)
  obtain ⟨hol, hor⟩ := hown
  rcases hor with ⟨rfl, h5⟩ | ⟨g, cap, cur, rfl, hg1, hg2, hg3, hg4, hg5, hg6⟩
  · omega
  have hstep := H.step (S1 := []) (w' := w') ⟨hgrow.os, hgrow.tape, hgrow.output, hgrow.size, fun k hk _ => hgrow.block k hk (by simp [Value.ownBlock])⟩ (by simp)
  refine ⟨g, cap, cur, w', by rw [hrun]; simp, hg1, hg2, by simpa using hg3, hg4, hg5, by simpa using hg6, hstep, fun j o hj ho => Nat.ne_of_lt (Nat.lt_of_lt_of_le (Ob.holds_lt (H.ob j o hj) ho) hg1)⟩
theorem app_own (H : HOk W w0 S0 ν h w) {t ty e : TypeId} {te : TI} (hd : P.underlying t = some (.slice e)) (hte' : TIOk P e te) (hsz0 : ¬ te.size = 0) {id n m yc : Nat} {o : Ob} {cur : Array Value} {vs us : List Value} {yb : Option Addr} (ho : h[id]? = some o) (hown : o.own = true)
    (q2 : w.heap[(ν id).blk]? = some (.cells cur e (0, 0))) (q3 : n ≤ (ν id).cap) (q4 : (ν id).cap ≤ maxLen) (q5 : cur.size = (ν id).cap * te.size) (q6 : cur.toList.take (n * te.size) = vs) (q7 : vs.length = n * te.size)
    (h0' : m ≠ 0) (hu2 : us.length = m * te.size) (hu3 : ∀ u ∈ us, u.oneCell' = true) (hu4 : m = 0 ∨ ∃ a, yb = some a ∧ ∀ j u, us[j]? = some u → w.cell? (a.add j) = some u) (hb1 : (n + m) * te.bytes ≤ 140737488355328) (hb2 : n + m ≤ maxLen) :
    ∃ g cap cur' w', (Builtin.append_ #[t, t] ty #[.slice (some ⟨(ν id).blk, 0, none⟩) n (ν id).cap, .slice yb m yc]).run P w = .ok (.slice (some ⟨g, 0, none⟩) (n + m) cap) w' ∧ (g ∈ S0 ∨ w0.heap.size ≤ g) ∧ w'.heap[g]? = some (.cells cur' e (0, 0)) ∧ n + m ≤ cap ∧ cap ≤ maxLen ∧ cur'.size = cap * te.size ∧ cur'.toList.take ((n + m) * te.size) = vs ++ us ∧ (vs ++ us).length = (n + m) * te.size ∧ HOk W w0 S0 ν (h.set id .dead) w' ∧ ∀ i (o : Ob), (h.set id .dead)[i]? = some o → o.own = true → (ν i).blk ≠ g := by
  obtain ⟨i, z, zs, hi1, hi2, hi3, hi4, hi5, hi6⟩ := hte'.info
  have hzs : z.cells.size = te.size := by rw [hi5]; simp [oks_len (hi6.1 0 fun _ => ⟨0, 0, 0, 0⟩), hte'.zl]
  obtain ⟨a, rfl, hcell⟩ := hu4.resolve_left h0'
  have hid : id < h.length := (List.getElem?_eq_some_iff.1 ho).1
  have hown0 : w.ownsRow 0 e te.size (.slice (some ⟨(ν id).blk, 0, none⟩) n (ν id).cap) n vs :=
    ⟨q7, Or.inr ⟨(ν id).blk, (ν id).cap, cur, rfl, Nat.zero_le _, q2, q3, q4, q5, q6⟩⟩
  obtain ⟨v', w', hrun, hown', hgrow, hnil, hwhere⟩ := run_append_own_at (P := P) w 0 t ty e i z te.size te.bytes hd hi1 hi4 hi2 hi3 hzs (by omega) _ n vs hown0 a m yc us hu2 hcell hu3 hb2 hb1 (Nat.zero_le _)
  obtain ⟨hol, hor⟩ := hown'
  rcases hor with ⟨rfl, h5⟩ | ⟨g, cap, cur', rfl, hg1, hg2, hg3, hg4, hg5, hg6⟩
  · omega
  have hg' : g = (ν id).blk ∨ g = w.heap.size := by
    rcases hwhere with h1 | h1 <;> simp only [Value.ownBlock, Option.some.injEq] at h1
    · exact Or.inl h1
    · exact Or.inr h1
  have hkey : ∀ j (o : Ob), (h.set id .dead)[j]? = some o → o.own = true → h[j]? = some o ∧ j ≠ id := by
    intro j o hj hjo
    by_cases hji : j = id
    · subst hji; rw [List.getElem?_set_self (by exact hid)] at hj; cases hj; cases hjo
    · rw [List.getElem?_set_ne (Ne.symm hji)] at hj; exact ⟨hj, hji⟩
  have hstep := (H.kill id).step (S1 := [(ν id).blk]) (w' := w') ⟨hgrow.os, hgrow.tape, hgrow.output, hgrow.size, fun k hk hs => hgrow.block k hk (by simpa [Value.ownBlock] using hs)⟩ (by
    intro x hx
    rw [List.mem_singleton.1 hx]
    refine ⟨H.own id _ ho hown, fun j o hj hjo => ?_⟩
    obtain ⟨h1, h2⟩ := hkey j o hj hjo
    exact H.apart j id o _ h2 h1 ho hjo hown)
  refine ⟨g, cap, cur', w', hrun, ?_, hg2, hg3, hg4, hg5, hg6, hol, hstep, fun j o hj hjo => ?_⟩
  · rcases hg' with rfl | rfl
    · exact H.own id _ ho hown
    · exact Or.inr H.size
  · obtain ⟨h1, h2⟩ := hkey j o hj hjo
    rcases hg' with rfl | rfl
    · exact H.apart j id o _ h2 h1 ho hjo hown
    · exact Nat.ne_of_lt (Ob.holds_lt (H.ob j o h1) hjo)
theorem view_ok (H : HOk W w0 S0 ν h w) {id : Nat} {len : NN} {p z : Bool} {yv : Value} {ks : List Kd} {ys : List (List Int)} (hy : (S.nsl id len p z).ok h.length ν yv) (ho : (∃ T, getO h id = .nrow T ks ys) ∨ getO h id = .nwin ks ys) :
    ∃ yb yc us, yv = .slice yb (viewR len p ys).length yc ∧ oks h.length ν (rowC ks (viewR len p ys)) us ∧ us.length = (viewR len p ys).length * ks.length ∧ (∀ u ∈ us, u.oneCell' = true) ∧ ((viewR len p ys).length = 0 ∨ ∃ a, yb = some a ∧ ∀ j u, us[j]? = some u → w.cell? (a.add j) = some u) := by
  simp only [S.ok] at hy
  obtain ⟨hid, hle, hp, hy⟩ := hy
  have hob : (getO h id).holds h.length ν (ν id) w := by
    rcases getO_spec h id with h3 | h3
    · exact H.ob id _ h3
    · rw [h3]; trivial
  have hlen : (ν id).len = ys.length := by
    rcases ho with ⟨T, ho⟩ | ho <;> rw [ho] at hob <;> exact hob.1
  have hvl : (viewR len p ys).length = len.val := by
    cases p with
    | false => simp only [viewR]; rw [← hlen]; exact (hp rfl).symm
    | true => simp only [viewR, takeR, List.length_take]; omega
  have hvt : viewR len p ys = ys.take len.val := by
    cases p with
    | false => simp only [viewR]; rw [List.take_of_length_le]; have := hp rfl; omega
    | true => rfl
  rcases hy with ⟨h0, a, c', rfl, ha⟩ | ⟨h0, hc1, hc2, rfl⟩
  · have hz : (viewR len p ys) = [] := List.eq_nil_of_length_eq_zero (by omega)
    rw [hz]
    exact ⟨a, c', [], rfl, oks_nil, by simp, by simp, Or.inl rfl⟩
  · have hcells : ∃ vs, oks h.length ν (rowC ks ys) vs ∧ ∀ j u, vs[j]? = some u → w.cell? ⟨(ν id).blk, (ν id).base + j, none⟩ = some u := by
      rcases ho with ⟨T, ho⟩ | ho
      · rw [ho] at hob
        cases ys with
        | nil => simp at hlen; omega
        | cons y ys =>
          obtain ⟨_, hb0, vs, cur, q1, q2, q3, q4, q5, q6, q7⟩ := hob
          refine ⟨vs, q1, fun j u hu => ?_⟩
          rw [← q6, List.getElem?_take] at hu
          split at hu
          · simp only [World.cell?, q2, hb0, Nat.zero_add]; simpa using hu
          · cases hu
      · rw [ho] at hob
        cases ys with
        | nil => simp at hlen; omega
        | cons y ys => exact hob.2
    obtain ⟨vs, g1, g2⟩ := hcells
    have hvs := oks_len g1
    rw [rowC_len] at hvs
    have hm := Nat.mul_le_mul_right ks.length (show len.val ≤ ys.length by omega)
    have hspl : rowC ks (viewR len p ys) = (rowC ks ys).take (len.val * ks.length) := by
      have e := rowC_append ks (ys.take len.val) (ys.drop len.val)
      rw [List.take_append_drop] at e
      rw [e, hvt, List.take_left']
      rw [rowC_len, List.length_take, Nat.min_eq_left (by omega)]
    rw [hspl, hvl]
    have hsub := oks_take (len.val * ks.length) g1
    refine ⟨_, _, vs.take (len.val * ks.length), rfl, hsub, by simp; omega, ?_, Or.inr ⟨_, rfl, fun j u hu => ?_⟩⟩
    · rw [← hspl] at hsub
      exact ones_ok rowC_one hsub
    · rw [add_addr]
      rw [List.getElem?_take] at hu
      split at hu
      · exact g2 _ _ hu
      · cases hu
theorem appO_sound (H : HOk W w0 S0 ν h w) {t ty e : TypeId} {te : TI} {x : S} {xv yv : Value} {ks : List Kd} {xs : List (List Int)} {K : S → List Ob → Prop} (hd : P.underlying t = some (.slice e)) (hte' : TIOk P e te) (hsz0 : ¬ te.size = 0) (hk : appO (std W) e te.size te.bytes x ks xs h K) (hx : x.ok h.length ν xv)
    {yb : Option Addr} {yc : Nat} {us : List Value} (hy : yv = .slice yb xs.length yc) (hu1 : oks h.length ν (rowC ks xs) us) (hu2 : us.length = xs.length * ks.length) (hu3 : ∀ u ∈ us, u.oneCell' = true) (hu4 : xs.length = 0 ∨ ∃ a, yb = some a ∧ ∀ j u, us[j]? = some u → w.cell? (a.add j) = some u) :
    ∃ s h' ν' v w', K s h' ∧ (Builtin.append_ #[t, t] ty #[xv, yv]).run P w = .ok v w' ∧ s.ok h'.length ν' v ∧ h.length ≤ h'.length ∧ (∀ i, i < h.length → ν' i = ν i) ∧ HOk W w0 S0 ν' h' w' := by
  subst hy
  unfold appO at hk
  split at hk
  case h_2 => exact hk.elim
  rename_i hks
  have hks := Nat.eq_of_beq_eq_true hks
  obtain ⟨hb, hk⟩ := ifP hk id
  rw [leN_std, decide_eq_true_eq, mulN_val] at hb
  simp only [NN.val, lenR] at hb
  obtain ⟨hb1, hb2⟩ := bytes_le hb
  have key : ∀ (z : Bool) (xa : Option Addr), (z = false → xa = none) → K (.nsl h.length (.v (lenR xs)) false z) (h ++ [.nrow e ks xs]) → 
      ∃ s h' ν' v w', K s h' ∧ (Builtin.append_ #[t, t] ty #[.slice xa 0 0, .slice yb xs.length yc]).run P w = .ok v w' ∧ s.ok h'.length ν' v ∧ h.length ≤ h'.length ∧ (∀ i, i < h.length → ν' i = ν i) ∧ HOk W w0 S0 ν' h' w' := by
    intro z xa hz hk
    by_cases h0 : xs.length = 0
    · have hxs : xs = [] := List.eq_nil_of_length_eq_zero h0
      subst hxs
      refine ⟨_, _, updE ν h.length ⟨0, 0, 0, 0⟩, _, w, hk, run_append_zero hd hte' ty xa 0 0 (Nat.le_refl _) yb yc w, ?_, by simp, updE_lt, ?_⟩
      · simp only [S.ok, updE_eq, lenR, List.length_nil, NN.val, List.length_append, List.length_singleton]
        exact ⟨by omega, Nat.le_refl _, fun _ => trivial, Or.inl ⟨trivial, xa, 0, rfl, fun h => ⟨hz h, rfl⟩⟩⟩
      · have hm : h.length ≤ (h ++ [Ob.nrow e ks []]).length := by simp
        have key : ∀ i o', (h ++ [Ob.nrow e ks []])[i]? = some o' → (i < h.length ∧ h[i]? = some o') ∨ (i = h.length ∧ o' = .nrow e ks []) := by
          intro i o' hi
          rcases Nat.lt_or_ge i h.length with hl | hl
          · rw [List.getElem?_append_left hl] at hi; exact Or.inl ⟨hl, hi⟩
          · rw [List.getElem?_append_right hl] at hi
            have : i - h.length = 0 := by
              rcases Nat.eq_zero_or_pos (i - h.length) with h0 | h0
              · exact h0
              · rw [List.getElem?_eq_none (by simp; omega)] at hi; cases hi
            rw [this] at hi
            simp at hi
            exact Or.inr ⟨by omega, hi.symm⟩
        refine ⟨H.upd, fun i o' hi => ?_, fun i o' hi ho => ?_, fun i j o1 o2 hij hi hj ho1 ho2 => ?_, fun i o' hi hw => ?_, H.far⟩
        · rcases key i o' hi with ⟨hl, hi'⟩ | ⟨rfl, rfl⟩
          · rw [updE_lt i hl]; exact Ob.holds_mono updE_lt hm (H.ob i o' hi')
          · rw [updE_eq]; exact ⟨rfl, trivial⟩
        · rcases key i o' hi with ⟨hl, hi'⟩ | ⟨rfl, rfl⟩
          · rw [updE_lt i hl]; exact H.own i o' hi' ho
          · cases ho
        · rcases key i o1 hi with ⟨hl, hi'⟩ | ⟨rfl, rfl⟩
          · rcases key j o2 hj with ⟨hl2, hj'⟩ | ⟨rfl, rfl⟩
            · rw [updE_lt i hl, updE_lt j hl2]; exact H.apart i j o1 o2 hij hi' hj' ho1 ho2
            · cases ho2
          · cases ho1
        · rcases key i o' hi with ⟨hl, hi'⟩ | ⟨rfl, rfl⟩
          · rw [updE_lt i hl]; exact H.win i o' hi' hw
          · cases hw
    · obtain ⟨g, cap, cur, w', hrun, hg1, hg2, hg3, hg4, hg5, hg6, hH, hne⟩ := app_fresh (ty := ty) H hd hte' hsz0 xa h0 (by rw [← hks]; exact hu2) hu3 hu4 hb1 hb2
      have hown : (Ob.nrow e ks xs).own = true := by cases xs with | nil => simp at h0 | cons => rfl
      have hpush := hH.push (.nrow e ks xs) ⟨g, 0, cap, xs.length⟩ hown (by
        refine ⟨rfl, ?_⟩
        cases xs with
        | nil => trivial
        | cons x xs => exact ⟨rfl, us, cur, hu1, hg2, hg3, hg4, by rw [hks]; exact hg5, by rw [hks]; exact hg6, hu2⟩) (Or.inr (Nat.le_trans H.size hg1)) hne
      refine ⟨_, _, _, _, w', hk, hrun, ?_, by simp, updE_lt, hpush⟩
      simp only [S.ok, updE_eq, lenR, NN.val, List.length_append, List.length_singleton]
      exact ⟨by omega, Nat.le_refl _, fun _ => trivial, Or.inr ⟨by omega, hg3, hg4, trivial⟩⟩
  split at hk
  · split at hk
    case h_2 => exact hk.elim
    simp only [S.ok] at hx
    subst hx
    exact key false none (fun _ => rfl) hk
  · simp only [S.ok] at hx
    obtain ⟨a, rfl⟩ := hx
    exact key true a (fun h => by cases h) hk
  · exact hk.elim
theorem appR_sound (H : HOk W w0 S0 ν h w) {t ty e : TypeId} {te : TI} {id : Nat} {len m : NN} {p z : Bool} {news : List S} {xv : Value} {K : S → List Ob → Prop} (hd : P.underlying t = some (.slice e)) (hte' : TIOk P e te) (hsz0 : ¬ te.size = 0) (hk : appR (std W) e te.size te.bytes id p z m news h K) (hx : (S.nsl id len p z).ok h.length ν xv)
    {yb : Option Addr} {yc : Nat} {us : List Value} (hu1 : oks h.length ν news us) (hu2 : us.length = m.val * te.size) (hu3 : ∀ u ∈ us, u.oneCell' = true) (hu4 : m.val = 0 ∨ ∃ a, yb = some a ∧ ∀ j u, us[j]? = some u → w.cell? (a.add j) = some u) :
    ∃ s h' ν' v w', K s h' ∧ (Builtin.append_ #[t, t] ty #[xv, .slice yb m.val yc]).run P w = .ok v w' ∧ s.ok h'.length ν' v ∧ h.length ≤ h'.length ∧ (∀ i, i < h.length → ν' i = ν i) ∧ HOk W w0 S0 ν' h' w' := by
  unfold appR at hk
  split at hk
  case h_2 => exact hk.elim
  rename_i m T ks xs hO
  split at hk
  case h_2 => exact hk.elim
  rename_i ys hT hks hpar
  have hT := Nat.eq_of_beq_eq_true hT
  have hks := Nat.eq_of_beq_eq_true hks
  subst hT
  obtain ⟨hb, hk⟩ := ifP hk (fun x => x)
  rw [leN_std, decide_eq_true_eq, mulN_val] at hb
  simp only [NN.val, lenR, apI, List.length_append] at hb
  obtain ⟨hyl, hyo⟩ := parseR_ok hpar hu1
  obtain ⟨hb1, hb2⟩ := bytes_le hb
  have ho : h[id]? = some (.nrow T ks xs) := by
    rcases getO_spec h id with ho | ho
    · rw [hO] at ho; exact ho
    · rw [hO] at ho; cases ho
  simp only [S.ok] at hx
  obtain ⟨hid, hle, hp, hx⟩ := hx
  have hp := hp trivial
  obtain ⟨hlen, hob⟩ := H.ob id _ ho
  have hset : setO h id Ob.dead = h.set id .dead := setO_eq _ _ _
  rw [hset] at hk
  have hhl : (h.set id Ob.dead).length = h.length := by simp
  have nlm : (NN.l (m + 1)).val = m + 1 := rfl
  simp only [nlm] at hu2 hu4 ⊢
  have hap : (apI xs ys).length = xs.length + (m + 1) := by simp only [apI, List.length_append, hyl]
  have hne0 : ∃ y r, apI xs ys = y :: r := by
    cases hq : apI xs ys with
    | nil => rw [hq] at hap; simp at hap
    | cons y r => exact ⟨y, r, rfl⟩
  have hown' : (Ob.nrow T ks (apI xs ys)).own = true := by
    obtain ⟨y, r, hq⟩ := hne0
    rw [hq]; rfl
  have fin : ∀ {g cap : Nat} {cur : Array Value} {w' : World} {vs : List Value}, w'.heap[g]? = some (.cells cur T (0, 0)) → xs.length + (m + 1) ≤ cap → cap ≤ maxLen → cur.size = cap * te.size → cur.toList.take ((xs.length + (m + 1)) * te.size) = vs → vs.length = (xs.length + (m + 1)) * te.size → oks h.length ν (rowC ks (apI xs ys)) vs → HOk W w0 S0 ν (h.set id .dead) w' → (g ∈ S0 ∨ w0.heap.size ≤ g) → (∀ i (o : Ob), (h.set id .dead)[i]? = some o → o.own = true → (ν i).blk ≠ g) →
      (Builtin.append_ #[t, t] ty #[xv, .slice yb (m + 1) yc]).run P w = .ok (.slice (some ⟨g, 0, none⟩) (xs.length + (m + 1)) cap) w' →
      ∃ s h' ν' v w', K s h' ∧ (Builtin.append_ #[t, t] ty #[xv, .slice yb (m + 1) yc]).run P w = .ok v w' ∧ s.ok h'.length ν' v ∧ h.length ≤ h'.length ∧ (∀ i, i < h.length → ν' i = ν i) ∧ HOk W w0 S0 ν' h' w' := by
    intro g cap cur w' vs k1 k2 k3 k4 k5 k6 k7 k8 k9 k10 hrun
    have hpush := k8.push (.nrow T ks (apI xs ys)) ⟨g, 0, cap, (apI xs ys).length⟩ hown' (by
      refine ⟨rfl, ?_⟩
      have hh : (0 : Nat) = 0 ∧ ∃ vs cur, oks (h.set id Ob.dead).length ν (rowC ks (apI xs ys)) vs ∧ w'.heap[g]? = some (.cells cur T (0, 0)) ∧ (apI xs ys).length ≤ cap ∧ cap ≤ maxLen ∧ cur.size = cap * ks.length ∧ cur.toList.take ((apI xs ys).length * ks.length) = vs ∧ vs.length = (apI xs ys).length * ks.length :=
        ⟨rfl, vs, cur, by rw [hhl]; exact k7, k1, by rw [hap]; exact k2, k3, by rw [hks]; exact k4, by rw [hap, hks]; exact k5, by rw [hap, hks]; exact k6⟩
      obtain ⟨y, r, hq⟩ := hne0
      rw [hq] at hh ⊢
      exact hh) k9 k10
    refine ⟨_, _, _, _, w', hk, hrun, ?_, by simp, fun j hj => updE_lt j (by rw [hhl]; exact hj), hpush⟩
    rw [hhl]
    simp only [S.ok, updE_eq, lenR, NN.val, List.length_append, List.length_singleton, hhl, hap]
    exact ⟨by omega, Nat.le_refl _, fun _ => trivial, Or.inr ⟨by omega, k2, k3, trivial⟩⟩
  rcases hx with ⟨h0, a, c', rfl, ha⟩ | ⟨h0, hc1, hc2, rfl⟩
  · obtain ⟨rfl, rfl⟩ := ha trivial
    have hxs : xs = [] := List.eq_nil_of_length_eq_zero (by omega)
    subst hxs
    obtain ⟨g, cap, cur, w', hrun, hg1, hg2, hg3, hg4, hg5, hg6, hH, hne⟩ := app_fresh (ty := ty) (m := m + 1) (yc := yc) H hd hte' hsz0 none (by omega) hu2 hu3 hu4 (by
      rw [hyl] at hb1; simpa using hb1) (by rw [hyl] at hb2; simpa using hb2)
    have z0 : ([] : List (List Int)).length + (m + 1) = m + 1 := by simp
    refine fin (g := g) (cap := cap) (cur := cur) (w' := w') (vs := us) hg2 (by rw [z0]; exact hg3) hg4 hg5 (by rw [z0]; exact hg6) (by rw [z0]; exact hu2) (by simpa [apI] using hyo) (hH.kill id) (Or.inr (Nat.le_trans H.size hg1)) (fun i o hi ho1 => ?_) (by rw [hrun, z0])
    by_cases hii : i = id
    · subst hii; rw [List.getElem?_set_self hid] at hi; cases hi; cases ho1
    · rw [List.getElem?_set_ne (Ne.symm hii)] at hi; exact hne i o hi ho1
  · have hob : (ν id).base = 0 ∧ ∃ vs cur, oks h.length ν (rowC ks xs) vs ∧ w.heap[(ν id).blk]? = some (.cells cur T (0, 0)) ∧ xs.length ≤ (ν id).cap ∧ (ν id).cap ≤ maxLen ∧ cur.size = (ν id).cap * ks.length ∧ cur.toList.take (xs.length * ks.length) = vs ∧ vs.length = xs.length * ks.length := by
      cases xs with
      | nil => simp at hlen; omega
      | cons => exact hob
    have hown : (Ob.nrow T ks xs).own = true := by
      cases xs with
      | nil => simp at hlen; omega
      | cons => rfl
    obtain ⟨hb0, vs, cur, q1, q2, q3, q4, q5, q6, q7⟩ := hob
    obtain ⟨g, cap, cur', w', hrun, hg1, hg2, hg3, hg4, hg5, hg6, hg7, hH, hne⟩ := app_own (ty := ty) (m := m + 1) (yc := yc) (yb := yb) (vs := vs) H hd hte' hsz0 ho hown q2 q3 q4 (by rw [← hks]; exact q5) (by rw [← hks]; exact q6) (by rw [← hks]; exact q7) (by omega) hu2 hu3 hu4 (by rw [← hyl]; exact hb1) (by rw [← hyl]; exact hb2)
    refine fin (g := g) (cap := cap) (cur := cur') (w' := w') hg2 hg3 hg4 hg5 hg6 hg7 ?_ hH hg1 hne ?_
    · simp only [apI, rowC_append]; exact oks_append q1 hyo
    · rw [hb0, show len.val = xs.length by omega]; exact hrun
theorem appS_sound (hT : TOk P tt) (H : HOk W w0 S0 ν h w) {t ty : TypeId} {x y : S} {xv yv : Value} {K : S → List Ob → Prop} (hk : appS (std W) tt t x y h K) (hx : x.ok h.length ν xv) (hy : y.ok h.length ν yv) :
    ∃ s h' ν' v w', K s h' ∧ (Builtin.append_ #[t, t] ty #[xv, yv]).run P w = .ok v w' ∧ s.ok h'.length ν' v ∧ h.length ≤ h'.length ∧ (∀ i, i < h.length → ν' i = ν i) ∧ HOk W w0 S0 ν' h' w' := by
  unfold appS at hk
  split at hk
  case h_2 => exact hk.elim
  rename_i ti ht
  have hd := (hT t ti ht).desc
  split at hk
  case h_2 => exact hk.elim
  rename_i e hdd
  simp only [hdd] at hd
  split at hk
  case h_2 => exact hk.elim
  rename_i te hte
  have hte' := hT e te hte
  split at hk
  · exact hk.elim
  rename_i hsz0
  split at hk
  · split at hk
    · rename_i T ks ys hO
      obtain ⟨yb, yc, us, h1, h2, h3, h4, h5⟩ := view_ok H hy (Or.inl ⟨_, hO⟩)
      exact appO_sound H hd hte' hsz0 hk hx h1 h2 h3 h4 h5
    · rename_i ks ys hO
      obtain ⟨yb, yc, us, h1, h2, h3, h4, h5⟩ := view_ok H hy (Or.inr hO)
      exact appO_sound H hd hte' hsz0 hk hx h1 h2 h3 h4 h5
    · exact hk.elim
  split at hk
  case h_2 => exact hk.elim
  rename_i m news hnews
  obtain ⟨yb, yc, us, rfl, hu1, hu2, hu3, hu4⟩ := newsS_ok H hnews hy
  obtain ⟨i, z, zs, hi1, hi2, hi3, hi4, hi5, hi6⟩ := hte'.info
  have hzs : z.cells.size = te.size := by rw [hi5]; simp [oks_len (hi6.1 0 fun _ => ⟨0, 0, 0, 0⟩), hte'.zl]
  have hbyt : ∀ k : Nat, k * (te.bytes + 1) ≤ 140737488355328 → k * te.bytes ≤ 140737488355328 ∧ k ≤ maxLen := by
    intro k hk
    rw [Nat.mul_succ] at hk
    have : (140737488355328 : Nat) ≤ maxLen := by decide
    omega
  split at hk
  · exact appR_sound H hd hte' hsz0 hk hx hu1 hu2 hu3 hu4
  · -- to an empty slice
    simp only [S.ok] at hx
    obtain ⟨xa, rfl⟩ := hx
    split at hk
    · rename_i h0
      rw [eqN_std, decide_eq_true_eq] at h0
      have h0' : m.val = 0 := h0
      refine ⟨_, h, ν, _, w, hk, by rw [h0']; exact run_append_zero hd hte' ty xa 0 0 (Nat.le_refl _) yb yc w, by simp only [S.ok]; exact ⟨xa, rfl⟩, Nat.le_refl _, fun _ _ => rfl, H⟩
    · rename_i h0
      rw [eqN_std, decide_eq_true_eq] at h0
      have h0' : m.val ≠ 0 := h0
      obtain ⟨hb, hk⟩ := ifP hk id
      rw [leN_std, decide_eq_true_eq, mulN_val] at hb
      obtain ⟨hb1, hb2⟩ := hbyt _ hb
      obtain ⟨g, cap, cur, w', hrun, hg1, hg2, hg3, hg4, hg5, hg6, hH, hne⟩ := app_fresh (ty := ty) H hd hte' hsz0 xa h0' hu2 hu3 hu4 hb1 hb2
      have hpush := hH.push (.row e te.size m news) ⟨g, 0, cap, m.val⟩ rfl ⟨rfl, us, cur, hu1, hg2, hg3, hg4, hg5, hg6, hu2, rfl⟩ (Or.inr (Nat.le_trans H.size hg1)) hne
      refine ⟨_, _, _, _, w', hk, hrun, ?_, by simp, updE_lt, hpush⟩
      have nl0 : (NN.l 0).val = 0 := rfl
      simp only [S.ok, Cap.val, nl0, updE_eq, Nat.sub_zero, List.length_append, List.length_singleton]
      exact ⟨by omega, by omega, hg4, _, rfl, fun _ => by simp⟩
  · -- to nil
    split at hk
    case h_2 => exact hk.elim
    simp only [S.ok] at hx
    subst hx
    split at hk
    · rename_i h0
      rw [eqN_std, decide_eq_true_eq] at h0
      have h0' : m.val = 0 := h0
      refine ⟨_, h, ν, _, w, hk, by rw [h0']; exact run_append_zero hd hte' ty none 0 0 (Nat.le_refl _) yb yc w, by simp only [S.ok], Nat.le_refl _, fun _ _ => rfl, H⟩
    · rename_i h0
      rw [eqN_std, decide_eq_true_eq] at h0
      have h0' : m.val ≠ 0 := h0
      obtain ⟨hb, hk⟩ := ifP hk id
      rw [leN_std, decide_eq_true_eq, mulN_val] at hb
      obtain ⟨hb1, hb2⟩ := hbyt _ hb
      obtain ⟨a, rfl, hcell⟩ := hu4.resolve_left h0'
      obtain ⟨v', w', hrun, hown, hgrow, hnil⟩ := run_append_own (P := P) w w.heap.size t ty e i z te.size te.bytes hd hi1 hi4 hi2 hi3 hzs (by omega) (.slice none 0 0) 0 [] ⟨by simp, Or.inl ⟨rfl, rfl⟩⟩ a m.val yc us hu2 hcell hu3 (by omega) (by simpa using hb1) (Nat.le_refl _)
      obtain ⟨hol, hor⟩ := hown
      rcases hor with ⟨rfl, h5⟩ | ⟨g, cap, cur, rfl, hg1, hg2, hg3, hg4, hg5, hg6⟩
      · omega
      have hstep := H.step (S1 := []) (w' := w') ⟨hgrow.os, hgrow.tape, hgrow.output, hgrow.size, fun k hk _ => hgrow.block k hk (by simp [Value.ownBlock])⟩ (by simp)
      have hpush := hstep.push (.row e te.size m news) ⟨g, 0, cap, m.val⟩ rfl ⟨rfl, us, cur, hu1, hg2, by simpa using hg3, hg4, hg5, by simpa using hg6, hu2, rfl⟩ (Or.inr (Nat.le_trans H.size hg1)) fun j o hj ho => Nat.ne_of_lt (Nat.lt_of_lt_of_le (Ob.holds_lt (H.ob j o hj) ho) hg1)
      refine ⟨_, _, _, _, w', hk, hrun, ?_, by simp, updE_lt, hpush⟩
      have nl0 : (NN.l 0).val = 0 := rfl
      simp only [S.ok, Cap.val, nl0, updE_eq, Nat.sub_zero, List.length_append, List.length_singleton]
      exact ⟨by omega, by omega, hg4, _, by rw [Nat.zero_add], fun _ => by simp⟩
  · -- to a slice
    rename_i id off len c zf
    split at hk
    · rename_i h0
      rw [eqN_std, decide_eq_true_eq] at h0
      have h0' : m.val = 0 := h0
      have hx' := hx
      simp only [S.ok] at hx
      obtain ⟨_, hlc, _, a, rfl, _⟩ := hx
      exact ⟨_, h, ν, _, w, hk, by rw [h0']; exact run_append_zero hd hte' ty _ _ _ hlc yb yc w, hx', Nat.le_refl _, fun _ _ => rfl, H⟩
    · rename_i h0
      rw [eqN_std, decide_eq_true_eq] at h0
      have h0' : m.val ≠ 0 := h0
      split at hk
      · rename_i hc0
        have hlc : len = .l 0 ∧ c = .lit (.l 0) := by
          unfold cap0 at hc0
          split at hc0
          · exact ⟨rfl, rfl⟩
          · cases hc0
        obtain ⟨rfl, rfl⟩ := hlc
        have nl0 : (NN.l 0).val = 0 := rfl
        simp only [S.ok, Cap.val, nl0] at hx
        obtain ⟨_, _, _, xa, rfl, _⟩ := hx
        obtain ⟨hb, hk⟩ := ifP hk (fun x => x)
        rw [leN_std, decide_eq_true_eq, mulN_val] at hb
        obtain ⟨hb1, hb2⟩ := hbyt _ hb
        obtain ⟨a, rfl, hcell⟩ := hu4.resolve_left h0'
        rw [run_append_cap0 hd hte' ty xa a m.val yc h0' hb1]
        obtain ⟨v', w', hrun, hown, hgrow, hnil⟩ := run_append_own (P := P) w w.heap.size t ty e i z te.size te.bytes hd hi1 hi4 hi2 hi3 hzs (by omega) (.slice none 0 0) 0 [] ⟨by simp, Or.inl ⟨rfl, rfl⟩⟩ a m.val yc us hu2 hcell hu3 (by omega) (by simpa using hb1) (Nat.le_refl _)
        obtain ⟨hol, hor⟩ := hown
        rcases hor with ⟨rfl, h5⟩ | ⟨g, cap, cur, rfl, hg1, hg2, hg3, hg4, hg5, hg6⟩
        · omega
        have hstep := H.step (S1 := []) (w' := w') ⟨hgrow.os, hgrow.tape, hgrow.output, hgrow.size, fun k hk _ => hgrow.block k hk (by simp [Value.ownBlock])⟩ (by simp)
        have hpush := hstep.push (.row e te.size m news) ⟨g, 0, cap, m.val⟩ rfl ⟨rfl, us, cur, hu1, hg2, by simpa using hg3, hg4, hg5, by simpa using hg6, hu2, rfl⟩ (Or.inr (Nat.le_trans H.size hg1)) fun j o hj ho => Nat.ne_of_lt (Nat.lt_of_lt_of_le (Ob.holds_lt (H.ob j o hj) ho) hg1)
        refine ⟨_, _, _, _, w', hk, hrun, ?_, by simp, updE_lt, hpush⟩
        simp only [S.ok, Cap.val, nl0, updE_eq, Nat.sub_zero, List.length_append, List.length_singleton]
        exact ⟨by omega, by omega, hg4, _, by rw [Nat.zero_add], fun _ => by simp⟩
      rename_i hcf
      clear hcf
      split at hk
      all_goals first | exact False.elim hk | skip
      rename_i T sz n cs hob
      obtain ⟨rfl, hk⟩ := ifP hk (fun x => x)
      obtain ⟨rfl, hk⟩ := ifP hk (fun x => x)
      obtain ⟨hnl, hk⟩ := ifP hk (fun x => x)
      obtain ⟨hb, hk⟩ := ifP hk (fun x => x)
      rw [eqN_std, decide_eq_true_eq] at hnl
      rw [leN_std, decide_eq_true_eq, mulN_val, addN_val] at hb
      obtain ⟨hb1, hb2⟩ := hbyt _ hb
      obtain ⟨a, rfl, hcell⟩ := hu4.resolve_left h0'
      have ho : h[id]? = some (.row T te.size n cs) := by
        rcases getO_spec h id with ho | ho
        · rw [hob] at ho; exact ho
        · rw [hob] at ho; cases ho
      obtain ⟨hb0, vs, cur, q1, q2, q3, q4, q5, q6, q7, _⟩ := H.ob id _ ho
      have nl0 : (NN.l 0).val = 0 := rfl
      simp only [S.ok, Cap.val, nl0, Nat.sub_zero] at hx
      obtain ⟨hid, hlc, _, a', rfl, ha'⟩ := hx
      have ha' := ha' (Or.inl trivial)
      rw [hb0] at ha'
      subst ha'
      have hnl' : n.val = len.val := hnl
      have hown0 : w.ownsRow 0 T te.size (.slice (some ⟨(ν id).blk, 0 + 0, none⟩) len.val (ν id).cap) n.val vs := by
        refine ⟨q7, Or.inr ⟨(ν id).blk, (ν id).cap, cur, ?_, Nat.zero_le _, q2, q3, q4, q5, q6⟩⟩
        rw [hnl']
      obtain ⟨v', w', hrun, hown, hgrow, hnil, hwhere⟩ := run_append_own_at (P := P) w 0 t ty T i z te.size te.bytes hd hi1 hi4 hi2 hi3 hzs (by omega) _ n.val vs hown0 a m.val yc us hu2 hcell hu3 (by omega) (by omega) (Nat.zero_le _)
      obtain ⟨hol, hor⟩ := hown
      rcases hor with ⟨rfl, h5⟩ | ⟨g, cap, cur', rfl, hg1, hg2, hg3, hg4, hg5, hg6⟩
      · omega
      have hg' : g = (ν id).blk ∨ g = w.heap.size := by
        rcases hwhere with h1 | h1 <;> simp only [Value.ownBlock, Option.some.injEq] at h1
        · exact Or.inl h1
        · exact Or.inr h1
      have hkey : ∀ j (o : Ob), (h.set id .dead)[j]? = some o → o.own = true → h[j]? = some o ∧ j ≠ id := by
        intro j o hj hjo
        by_cases hji : j = id
        · subst hji; rw [List.getElem?_set_self (by exact hid)] at hj; cases hj; cases hjo
        · rw [List.getElem?_set_ne (Ne.symm hji)] at hj; exact ⟨hj, hji⟩
      have hstep := (H.kill id).step (S1 := [(ν id).blk]) (w' := w') ⟨hgrow.os, hgrow.tape, hgrow.output, hgrow.size, fun k hk hs => hgrow.block k hk (by simpa [Value.ownBlock] using hs)⟩ (by
        intro x hx
        rw [List.mem_singleton.1 hx]
        refine ⟨H.own id _ ho rfl, fun j o hj hjo => ?_⟩
        obtain ⟨h1, h2⟩ := hkey j o hj hjo
        exact H.apart j id o _ h2 h1 ho hjo rfl)
      have hlen : (h.set id .dead).length = h.length := by simp
      have hcat : catS (std W) (litN n && litN m) cs news = cs ++ news := catS_eq _ _ _
      have hpush := hstep.push (.row T te.size (addN (std W) n m) (cs ++ news)) ⟨g, 0, cap, n.val + m.val⟩ rfl
        ⟨rfl, vs ++ us, cur', by rw [hlen]; exact oks_append q1 hu1, hg2, by rw [addN_val]; exact hg3, hg4, hg5, by rw [addN_val]; exact hg6, by rw [addN_val]; exact hol, by rw [addN_val]⟩
        (by rcases hg' with rfl | rfl
            · exact H.own id _ ho rfl
            · exact Or.inr H.size)
        (fun j o hj hjo => by
          obtain ⟨h1, h2⟩ := hkey j o hj hjo
          rcases hg' with rfl | rfl
          · exact H.apart j id o _ h2 h1 ho hjo rfl
          · exact Nat.ne_of_lt (Ob.holds_lt (H.ob j o h1) hjo))
      rw [setO_eq, hcat] at hk
      refine ⟨_, _, _, _, w', hk, hrun, ?_, by simp, fun j hj => updE_lt j (by rw [hlen]; exact hj), hpush⟩
      simp only [S.ok, Cap.val, nl0, updE_eq, hlen, Nat.sub_zero, List.length_append, List.length_singleton, addN_val]
      rw [← hlen]
      exact ⟨by omega, hg3, hg4, _, rfl, fun _ => by simp⟩
  · exact hk.elim
end
end Go.SX

namespace Go.SX
open Go.RowKit
section
variable {W : Addr → Nat → Nat → Option (List S)}
variable {P : Program} {tt : Nat → Option TI} {w0 w : World} {S0 : List Nat} {ν : Nat → Env} {h : List Ob} {m : Nat}
theorem run_checkFields (hT : TOk P tt) {cs : List S} {vs : List Value} (hc : oks m ν cs vs) (em : Bool) (d : Nat) (w : World) :
    ∀ (fa : List Field), (∀ f ∈ fa, f.name ≠ "_") → flatF tt cs (fa.map fun f => (f.offset, f.type)) = true →
      (forIn fa PUnit.unit (fun f _ => if f.name ≠ "_" then (do
        Instr.checkKey em (d + 1) f.type (← part f.type vs.toArray f.offset)
        pure (ForInStep.yield PUnit.unit)) else pure (ForInStep.yield PUnit.unit)) : Sem PUnit).run P w = .ok PUnit.unit w
  | [], _, _ => by simp
  | f :: fa, hn, h => by
    simp only [List.map_cons, flatF, Bool.and_eq_true] at h
    obtain ⟨h1, h2, h3⟩ := h
    obtain ⟨s, hs⟩ := Option.isSome_iff_exists.1 h2
    obtain ⟨v, hv, hvr⟩ := part_ok hT hs hc
    have ih := run_checkFields hT hc em d w fa (fun g hg => hn g (by simp [hg])) h3
    have hck : (Instr.checkKey em (d + 1) f.type v).run P w = .ok () w := by
      simp only [flatT] at h1
      split at h1
      case h_2 => cases h1
      rename_i u hu
      have hd := (hT _ _ hu).desc
      split at h1
      case h_4 => cases h1
      all_goals
        rename_i hdd
        simp only [hdd] at hd
        simp [Instr.checkKey, run_underlying hd]
    rw [List.forIn_cons]
    simp only [Sem.run_bind, if_pos (hn f (by simp)), hvr, Result.andThen_ok, hck, Sem.run_pure]
    exact ih
theorem run_checkKey_ok (hT : TOk P tt) {kt : TypeId} {k : S} {kv : Value} (hk : keyOk tt kt k = true) (ho : k.ok m ν kv) (em : Bool) (w : World) : (Instr.checkKey em 10000 kt kv).run P w = .ok () w := by
  unfold keyOk at hk
  split at hk
  · rename_i ti cs hti
    split at hk
    case h_2 => cases hk
    rename_i fs hd
    have hdd := (hT kt ti hti).desc
    simp only [hd] at hdd
    obtain ⟨fa, h1, h2, h3, _⟩ := hdd
    simp only [S.ok] at ho
    obtain ⟨vs, rfl, hc⟩ := ho
    have := run_checkFields hT hc em 9998 w fa.toList h3 (by rw [h2]; exact hk)
    rw [Instr.checkKey]
    simp only [Sem.run_bind, run_underlying h1, Result.andThen_ok]
    rw [← Array.forIn_toList, this]
    rfl
  · rename_i ti ik z hti
    split at hk
    case h_2 => cases hk
    rename_i kk hd
    have hdd := (hT kt ti hti).desc
    simp only [hd] at hdd
    rw [Instr.checkKey]
    simp only [Sem.run_bind, run_underlying hdd, Result.andThen_ok]
    rfl
  · cases hk
theorem eqX_int {kt : TypeId} {ti : TI} {kk k0 : IntKind} {z : Int} {x : S} {bb : Bool} (hti : tt kt = some ti) (hd : ti.d = .int kk) (h : eqX (std W) tt kt (.il k0 z) x = some (.bl bb)) : ∃ b, x = .il k0 b ∧ bb = (z == b) := by
  unfold eqX at h
  rw [hti] at h
  simp only [hd] at h
  unfold eqT at h
  cases x <;> simp only [hti, hd, eq1] at h
  case il k' b =>
    split at h
    · rename_i he; subst he; simp only [Option.some.injEq, S.bl.injEq] at h; exact ⟨b, rfl, h.symm⟩
    · cases h
  case iv k' b => split at h <;> cases h
  all_goals cases h
theorem findNow_int {kt : TypeId} {ti : TI} {kk k0 : IntKind} {z : Int} (hti : tt kt = some ti) (hd : ti.d = .int kk) :
    ∀ (ks : List S) (a b : List Value) (n i : Nat) (r : Option Nat), oks m ν ks a → a.length = b.length → findS (std W) tt kt (.il k0 z) ks i = some r →
      ∃ r', Instr.findNow (.int kk) (.int k0 z) (ents a b n) i = some r' ∧ (match r with
        | none => r' = none
        | some j => i ≤ j ∧ ∃ x, b[j - i]? = some x ∧ r' = some (j, x))
  | [], a, b, n, i, r, hks, hl, hf => by
    simp only [S.oks] at hks
    subst hks
    simp only [findS, Option.some.injEq] at hf
    subst hf
    refine ⟨none, ?_, rfl⟩
    cases b <;> simp [ents, Instr.findNow]
  | x :: ks, a, b, n, i, r, hks, hl, hf => by
    simp only [S.oks] at hks
    obtain ⟨v, a', rfl, hx, hr⟩ := hks
    cases b with
    | nil => simp at hl
    | cons y b =>
    simp only [findS] at hf
    split at hf
    · rename_i he
      simp only [Option.some.injEq] at hf
      subst hf
      obtain ⟨q, rfl, hq⟩ := eqX_int hti hd he
      simp only [S.ok] at hx
      subst hx
      exact ⟨some (i, y), by simp [ents, Instr.findNow, Instr.sameNow, ← hq], Nat.le_refl _, y, by simp, rfl⟩
    · rename_i he
      obtain ⟨q, rfl, hq⟩ := eqX_int hti hd he
      simp only [S.ok] at hx
      subst hx
      obtain ⟨r', h3, h4⟩ := findNow_int hti hd ks a' b (n + 1) (i + 1) r hr (by simpa using hl) hf
      refine ⟨r', by simp [ents, Instr.findNow, Instr.sameNow, ← hq, h3], ?_⟩
      cases r with
      | none => exact h4
      | some j =>
        obtain ⟨h5, u, h6, h7⟩ := h4
        refine ⟨by omega, u, ?_, h7⟩
        rw [show j - i = (j - (i + 1)) + 1 by omega]
        simpa using h6
    · cases hf
theorem findNow_struct {d : TypeDesc} {k : Value} (hd : ∀ a b, Instr.sameNow d a b = none) : ∀ es i, Instr.findNow d k es i = match es with | [] => some none | _ :: _ => none
  | [], _ => rfl
  | e :: es, i => by simp [Instr.findNow, hd]
theorem ents_nil_or (a b : List Value) (n : Nat) (h : a.length = b.length) : ents a b n = [] ↔ a = [] := by
  cases a <;> cases b <;> simp_all [ents]
theorem run_findAsking (hT : TOk P tt) {kt : TypeId} {k : S} {kv : Value} (ho : k.ok m ν kv) (w : World) :
    ∀ (ks : List S) (a b : List Value) (n i : Nat) (r : Option Nat), oks m ν ks a → a.length = b.length → findS (std W) tt kt k ks i = some r →
      ∃ r', (Instr.findAsking kt kv (ents a b n) i).run P w = .ok r' w ∧ (match r with
        | none => r' = none
        | some j => i ≤ j ∧ ∃ x, b[j - i]? = some x ∧ r' = some (j, x))
  | [], a, b, n, i, r, hks, hl, hf => by
    simp only [S.oks] at hks
    subst hks
    simp only [findS, Option.some.injEq] at hf
    subst hf
    refine ⟨none, ?_, rfl⟩
    cases b <;> simp [ents, Instr.findAsking]
  | x :: ks, a, b, n, i, r, hks, hl, hf => by
    simp only [S.oks] at hks
    obtain ⟨v, a', rfl, hx, hr⟩ := hks
    cases b with
    | nil => simp at hl
    | cons y b =>
    simp only [findS] at hf
    simp only [ents, Instr.findAsking]
    split at hf
    · rename_i he
      simp only [Option.some.injEq] at hf
      subst hf
      obtain ⟨bb, h1, h2⟩ := eqX_ok hT he ho hx
      simp only [S.ok, Value.bool.injEq] at h1
      subst h1
      exact ⟨some (i, y), by simp [h2], Nat.le_refl _, y, by simp, rfl⟩
    · rename_i he
      obtain ⟨bb, h1, h2⟩ := eqX_ok hT he ho hx
      simp only [S.ok, Value.bool.injEq] at h1
      subst h1
      obtain ⟨r', h3, h4⟩ := run_findAsking hT ho w ks a' b (n + 1) (i + 1) r hr (by simpa using hl) hf
      refine ⟨r', by simp [h2, h3], ?_⟩
      cases r with
      | none => exact h4
      | some j =>
        obtain ⟨h5, u, h6, h7⟩ := h4
        refine ⟨by omega, u, ?_, h7⟩
        rw [show j - i = (j - (i + 1)) + 1 by omega]
        simpa using h6
    · cases hf
def FoundAt (b : List Value) : Option Nat → Option (Nat × Value) → Prop
  | none, r' => r' = none
  | some j, r' => ∃ x, b[j]? = some x ∧ r' = some (j, x)
theorem run_findKey_ok (hT : TOk P tt) {kt : TypeId} {k : S} {kv : Value} (hk : keyOk tt kt k = true) (ho : k.ok m ν kv) (w : World) {ks : List S} {a b : List Value} {r : Option Nat} (hks : oks m ν ks a) (hl : a.length = b.length) (hf : findS (std W) tt kt k ks 0 = some r) :
    ∃ r', (Instr.findKey kt kv (ents a b 0)).run P w = .ok r' w ∧ FoundAt b r r' := by
  have fin : ∀ r', (match r with
      | none => r' = none
      | some j => 0 ≤ j ∧ ∃ x, b[j - 0]? = some x ∧ r' = some (j, x)) → FoundAt b r r' := by
    intro r' h2
    cases r with
    | none => exact h2
    | some j => obtain ⟨_, x, h3, h4⟩ := h2; exact ⟨x, by simpa using h3, h4⟩
  have hs : (∃ fa, P.underlying kt = some (.struct fa)) ∨ (∃ ti kk k0 z, tt kt = some ti ∧ ti.d = .int kk ∧ P.underlying kt = some (.int kk) ∧ k = .il k0 z ∧ kv = .int k0 z) := by
    unfold keyOk at hk
    split at hk
    · rename_i ti cs hti
      split at hk
      case h_2 => cases hk
      rename_i fs hd
      have hdd := (hT kt ti hti).desc
      simp only [hd] at hdd
      obtain ⟨fa, h1, _⟩ := hdd
      exact Or.inl ⟨fa, h1⟩
    · rename_i ti k0 z hti
      split at hk
      case h_2 => cases hk
      rename_i kk hd
      have hdd := (hT kt ti hti).desc
      simp only [hd] at hdd
      simp only [S.ok] at ho
      exact Or.inr ⟨ti, kk, k0, z, hti, hd, hdd, rfl, ho⟩
    · cases hk
  rcases hs with ⟨fa, hs⟩ | ⟨ti, kk, k0, z, hti, hd, hs, rfl, rfl⟩
  case inr =>
    obtain ⟨r', h1, h2⟩ := findNow_int (W := W) hti hd ks a b 0 0 r hks hl hf
    refine ⟨r', ?_, fin r' h2⟩
    unfold Instr.findKey
    simp only [Sem.run_bind, run_underlying hs, Result.andThen_ok, h1, Sem.run_pure]
  obtain ⟨r', h1, h2⟩ := run_findAsking (W := W) hT ho w ks a b 0 0 r hks hl hf
  clear hf
  refine ⟨r', ?_, fin r' h2⟩
  unfold Instr.findKey
  simp only [Sem.run_bind, run_underlying hs, Result.andThen_ok]
  rw [findNow_struct (fun _ _ => rfl)]
  cases he : ents a b 0 with
  | nil =>
    rw [he] at h1
    simp only [Instr.findAsking, Sem.run_pure] at h1
    simpa using h1
  | cons e es =>
    rw [he] at h1
    simpa using h1
theorem mapOf_ok (H : HOk W w0 S0 ν h w) {x : S} {id : Nat} {ks vs : List S} {v : Value} (hm : mapOf x h = some (id, ks, vs)) (hx : x.ok h.length ν v) :
    x = .mp id ∧ v = .map (some (ν id).blk) ∧ h[id]? = some (.mapo ks vs) ∧ ∃ a b, oks h.length ν ks a ∧ oks h.length ν vs b ∧ a.length = b.length ∧ w.heap[(ν id).blk]? = some (.map (ents a b 0).toArray a.length) := by
  unfold mapOf at hm
  split at hm
  case h_2 => cases hm
  rename_i id'
  split at hm
  case h_2 => cases hm
  rename_i ks' vs' hg
  simp only [Option.some.injEq, Prod.mk.injEq] at hm
  obtain ⟨rfl, rfl, rfl⟩ := hm
  simp only [S.ok] at hx
  obtain ⟨_, rfl⟩ := hx
  have ho : h[id']? = some (.mapo ks' vs') := by
    rcases getO_spec h id' with ho | ho
    · rw [ho, hg]
    · rw [hg] at ho; cases ho
  have hob := H.ob _ _ ho
  obtain ⟨_, a, b, h1, h2, h3, h4⟩ := hob
  exact ⟨rfl, rfl, ho, a, b, h1, h2, h3, h4⟩
theorem ents_push : ∀ (a b : List Value) (n : Nat) (k v : Value), a.length = b.length → ents (a ++ [k]) (b ++ [v]) n = ents a b n ++ [⟨k, v, n + a.length⟩]
  | [], [], n, k, v, _ => by simp [ents]
  | x :: a, y :: b, n, k, v, h => by
    simp only [List.cons_append, ents, List.length_cons]
    rw [ents_push a b (n + 1) k v (by simpa using h)]
    congr 4
    omega
  | [], _ :: _, _, _, _, h => by simp at h
  | _ :: _, [], _, _, _, h => by simp at h
theorem ents_len : ∀ (a b : List Value) (n : Nat), a.length = b.length → (ents a b n).length = a.length
  | [], [], _, _ => rfl
  | x :: a, y :: b, n, h => by simp [ents, ents_len a b (n + 1) (by simpa using h)]
  | [], _ :: _, _, h => by simp at h
  | _ :: _, [], _, h => by simp at h
theorem makeMap_sound (H : HOk W w0 S0 ν h w) : HOk W w0 S0 (updE ν h.length ⟨w.heap.size, 0, 0, 0⟩) (h ++ [.mapo [] []]) (w.alloc (.map #[] 0)) := by
  refine (H.step (S1 := []) ((Upd.refl _ _).alloc _) (by simp)).push (.mapo [] []) ⟨w.heap.size, 0, 0, 0⟩ rfl ⟨rfl, [], [], oks_nil, oks_nil, rfl, ?_⟩ (Or.inr H.size) fun i o hi ho => ?_
  · show (w.heap.push _)[w.heap.size]? = _
    simp [ents]
  · exact Nat.ne_of_lt (Ob.holds_lt (H.ob i o hi) ho)
theorem mapUpdS_sound (hT : TOk P tt) (H : HOk W w0 S0 ν h w) {t : TypeId} {x k s : S} {xv kv sv : Value} {h' : List Ob} (hs : mapUpdS (std W) tt t x k s h = some h') (hx : x.ok h.length ν xv) (hk : k.ok h.length ν kv) (hv : s.ok h.length ν sv) :
    ∃ w', (Instr.mapUpdate t xv kv sv).run P w = .ok () w' ∧ HOk W w0 S0 ν h' w' ∧ h'.length = h.length := by
  unfold mapUpdS at hs
  split at hs
  case h_2 => cases hs
  rename_i ti hti
  split at hs
  case h_2 => cases hs
  rename_i kt et id ks vs hd hm
  split at hs
  case isFalse => cases hs
  rename_i hko
  split at hs
  case h_2 => cases hs
  rename_i hf
  simp only [Option.some.injEq] at hs
  subst hs
  have hdd := (hT t ti hti).desc
  simp only [hd] at hdd
  obtain ⟨rfl, rfl, ho, a, b, h1, h2, h3, h4⟩ := mapOf_ok H hm hx
  obtain ⟨r', h5, h6⟩ := run_findKey_ok hT hko hk w h1 h3 hf
  simp only [FoundAt] at h6
  subst h6
  rw [setO_eq]
  refine ⟨{ w with heap := w.heap.setIfInBounds (ν id).blk (.map ((ents a b 0).toArray.push { key := kv, val := sv, born := a.length }) (a.length + 1)) }, ?_, ?_, by simp⟩
  · simp only [Instr.mapUpdate, Sem.run_bind, run_underlying hdd, Result.andThen_ok, MapKept.run_getObj_map h4, run_checkKey_ok hT hko hk, h5, MapKept.run_setObj_map _ h4]
  · have hlt := lt_of_blk h4
    refine H.put (.mapo (ks ++ [k]) (vs ++ [s])) ho rfl rfl ⟨rfl, rfl, rfl, by simp, fun j hj hn => ?_⟩ ?_
    · have : (ν id).blk ≠ j := fun he => hn (by simp [he])
      simp [Array.getElem?_setIfInBounds_ne this]
    · have hb := (H.ob id _ ho).1
      refine ⟨hb, a ++ [kv], b ++ [sv], oks_append h1 (oks_cons hk oks_nil), oks_append h2 (oks_cons hv oks_nil), by simp [h3], ?_⟩
      rw [ents_push a b 0 kv sv h3]
      simp [hlt]
theorem lookS_sound (hT : TOk P tt) (H : HOk W w0 S0 ν h w) {t : TypeId} {x k s : S} {xv kv : Value} {bb : Bool} (hs : lookS (std W) tt t x k h = some (s, bb)) (hx : x.ok h.length ν xv) (hk : k.ok h.length ν kv) :
    ∃ v, s.ok h.length ν v ∧ (Instr.lookup t xv kv false).run P w = .ok v w ∧ (Instr.lookup t xv kv true).run P w = .ok (.tuple #[v, .bool bb]) w := by
  unfold lookS at hs
  split at hs
  case h_2 => cases hs
  rename_i ti hti
  split at hs
  case h_2 => cases hs
  rename_i kt et id ks vs hd hm
  split at hs
  case isFalse => cases hs
  rename_i hko
  have hdd := (hT t ti hti).desc
  simp only [hd] at hdd
  obtain ⟨rfl, rfl, ho, a, b, h1, h2, h3, h4⟩ := mapOf_ok H hm hx
  split at hs
  case h_3 => cases hs
  · rename_i j hf
    simp only [Option.some.injEq, Prod.mk.injEq] at hs
    obtain ⟨rfl, rfl⟩ := hs
    obtain ⟨r', h5, u, h6, rfl⟩ := run_findKey_ok hT hko hk w h1 h3 hf
    have h7 := getT_ok j h2
    have h8 : b.getD j undef = u := by rw [List.getD_eq_getElem?_getD, h6]; rfl
    rw [h8] at h7
    refine ⟨u, h7, ?_, ?_⟩
    · simp only [Instr.lookup, Sem.run_bind, run_underlying hdd, Result.andThen_ok, MapKept.run_getObj_map h4, Sem.run_pure, run_checkKey_ok hT hko hk, h5, Bool.false_eq_true, if_false]
    · simp only [Instr.lookup, Sem.run_bind, run_underlying hdd, Result.andThen_ok, MapKept.run_getObj_map h4, Sem.run_pure, run_checkKey_ok hT hko hk, h5, if_true]
  · rename_i hf
    split at hs
    case h_2 => cases hs
    rename_i te hte
    simp only [Option.some.injEq, Prod.mk.injEq] at hs
    obtain ⟨rfl, rfl⟩ := hs
    obtain ⟨r', h5, h6⟩ := run_findKey_ok hT hko hk w h1 h3 hf
    simp only [FoundAt] at h6
    subst h6
    obtain ⟨z, zs, g1, g2, g3⟩ := run_zero2 (hT et te hte)
    refine ⟨z, ?_, ?_, ?_⟩
    · unfold zeroS
      cases hag : te.agg with
      | true =>
        rw [hag] at g1
        simp only at g1
        subst g1
        simp only [S.ok]
        exact ⟨zs, rfl, g2 _ _⟩
      | false =>
        rw [hag] at g1
        simp only at g1
        subst g1
        have := getT_ok 0 (g2 h.length ν)
        simpa using this
    · simp only [Instr.lookup, Sem.run_bind, run_underlying hdd, Result.andThen_ok, MapKept.run_getObj_map h4, Sem.run_pure, run_checkKey_ok hT hko hk, h5, g3, Bool.false_eq_true, if_false]
    · simp only [Instr.lookup, Sem.run_bind, run_underlying hdd, Result.andThen_ok, MapKept.run_getObj_map h4, Sem.run_pure, run_checkKey_ok hT hko hk, h5, g3, if_true]
theorem eqX_il {kt : TypeId} {ti : TI} {kk k0 : IntKind} {z b : Int} (hti : tt kt = some ti) (hd : ti.d = .int kk) : eqX (std W) tt kt (.il k0 z) (.il k0 b) = some (.bl (z == b)) := by
  unfold eqX
  rw [hti]
  simp only [hd]
  unfold eqT
  simp only [hti, hd, eq1, if_true]
theorem lookK_sound (hT : TOk P tt) (H : HOk W w0 S0 ν h w) {t : TypeId} {x k : S} {xv kv : Value} {K : S → Bool → Prop} (hs : lookK (std W) tt t x k h K) (hx : x.ok h.length ν xv) (hk : k.ok h.length ν kv) :
    ∃ s bb, K s bb ∧ ∃ v, s.ok h.length ν v ∧ (Instr.lookup t xv kv false).run P w = .ok v w ∧ (Instr.lookup t xv kv true).run P w = .ok (.tuple #[v, .bool bb]) w := by
  unfold lookK at hs
  split at hs
  · rename_i k0 z
    have hk' : (S.il k0 z).ok h.length ν kv := by simpa only [S.ok] using hk
    split at hs
    case h_2 => exact hs.elim
    rename_i ti hti
    split at hs
    case h_2 => exact hs.elim
    rename_i kt et id ks vs hd hm
    split at hs
    case h_2 => exact hs.elim
    rename_i te hko hte
    have hkt : ∃ ti' kk, tt kt = some ti' ∧ ti'.d = .int kk := by
      unfold keyOk at hko
      split at hko
      · rename_i heq; cases heq
      · rename_i ti' _ _ h1 _
        split at hko
        · rename_i kk hdk; exact ⟨ti', kk, h1, hdk⟩
        · cases hko
      · cases hko
    obtain ⟨ti', kk, hkt, hdk⟩ := hkt
    have key : ∀ (r : List S) (i : Nat), findS (std W) tt kt (.il k0 z) ks 0 = findS (std W) tt kt (.il k0 z) r i → lookF (std W) tt t x k0 z h K te r → ∃ s bb, K s bb ∧ lookS (std W) tt t x (.il k0 z) h = some (s, bb) := by
      intro r
      induction r with
      | nil =>
        intro i hf hl
        refine ⟨_, _, hl, ?_⟩
        unfold lookS
        simp only [hti, hd, hm, hko, if_true, hf, findS, hte]
      | cons y r ih =>
        intro i hf hl
        unfold lookF at hl
        split at hl
        case h_2 => exact hl.elim
        rename_i k1 a
        split at hl
        case h_2 => exact hl.elim
        rename_i hkk
        by_cases hkk' : k0 = k1
        case neg => rw [if_neg hkk'] at hkk; cases hkk
        subst hkk'
        split at hl
        · rename_i hz
          have hz : stdB .eq z a = true := hz
          simp only [stdB, beq_iff_eq] at hz
          subst hz
          split at hl
          · rename_i v b hv; exact ⟨v, b, hl, hv⟩
          · exact hl.elim
        · rename_i hz
          have hz : ¬ stdB .eq z a = true := hz
          simp only [stdB, beq_iff_eq] at hz
          refine ih (i + 1) ?_ hl
          rw [hf]
          simp only [findS, eqX_il hkt hdk]
          have : (z == a) = false := by simpa using hz
          rw [this]
    obtain ⟨s, bb, h1, h2⟩ := key ks 0 rfl hs
    exact ⟨s, bb, h1, lookS_sound hT H h2 hx hk'⟩
  · split at hs
    · rename_i v b hv
      exact ⟨v, b, hs, lookS_sound hT H hv hx hk⟩
    · exact hs.elim
theorem mapLenS_sound (hT : TOk P tt) (H : HOk W w0 S0 ν h w) {t : TypeId} {x s : S} {xv : Value} {ty : TypeId} (hs : mapLenS tt t x h = some s) (hx : x.ok h.length ν xv) :
    ∃ v, s.ok h.length ν v ∧ (Builtin.len_ #[t] ty #[xv]).run P w = .ok v w := by
  unfold mapLenS at hs
  split at hs
  case h_2 => cases hs
  rename_i ti hti
  split at hs
  case h_2 => cases hs
  rename_i kt et id ks vs hd hm
  simp only [Option.some.injEq] at hs
  subst hs
  have hdd := (hT t ti hti).desc
  simp only [hd] at hdd
  obtain ⟨rfl, rfl, ho, a, b, h1, h2, h3, h4⟩ := mapOf_ok H hm hx
  have hl := oks_len h1
  refine ⟨goInt (ents a b 0).length, ?_, ?_⟩
  · simp only [S.ok, goInt, ents_len a b 0 h3, hl]
  · simp [Builtin.len_, run_underlying hdd, MapKept.run_getObj_map h4]
end
end Go.SX
