/- SX: memory. -/
import Derived.Test.YtbkegflipglioaaGreatSX8
import Derived.Laws.OwnMore
import Derived.Laws.IdiomCopy
import Derived.Maps.AppendAt
namespace Go.SX
open Go.RowKit
section
variable {W : Addr → Nat → Nat → Option (List S)}
variable {P : Program} {tt : Nat → Option TI} {w0 w : World} {S0 : List Nat} {ν : Nat → Env} {h : List Ob}
theorem getO_spec : ∀ (h : List Ob) (i : Nat), h[i]? = some (getO h i) ∨ getO h i = .dead
  | [], i => Or.inr rfl
  | x :: r, 0 => Or.inl (by rw [getO_zero]; rfl)
  | x :: r, i + 1 => by rw [getO_succ]; simpa using getO_spec r i
theorem setO_eq : ∀ (h : List Ob) (i : Nat) (o : Ob), setO h i o = h.set i o
  | [], i, o => by simp [setO]
  | x :: r, 0, o => by simp [setO]
  | x :: r, i + 1, o => by simp [setO, setO_eq r i o]
theorem stdG_spec {cs : List S} {o n : Nat} {r : List S} (h : stdG cs o n = some r) : r = (cs.drop o).take n ∧ o + n ≤ cs.length := by
  unfold stdG at h
  split at h
  · simp only [Option.some.injEq] at h; exact ⟨h.symm, by assumption⟩
  · cases h
theorem getC_spec {o : Ob} {off : NN} {n : Nat} {r : List S} (h : getC (std W) o off n = some r) : r = ((cellsOf o).drop off.val).take n ∧ off.val + n ≤ (cellsOf o).length := by
  unfold getC at h
  split at h
  · exact subL_spec h
  · exact stdG_spec h
/-- The cells of an object. -/
theorem ob_cells {e : Env} {o : Ob} (H : o.holds h.length ν e w) : ∃ vs, oks h.length ν (cellsOf o) vs ∧ ∀ j u, vs[j]? = some u → w.cell? ⟨e.blk, e.base + j, none⟩ = some u := by
  cases o with
  | cells T cs =>
    obtain ⟨h0, vs, h1, h2⟩ := H
    exact ⟨vs, h1, fun j u hu => by simp [World.cell?, h2, h0, hu]⟩
  | row T sz n cs =>
    obtain ⟨h0, vs, cur, h1, h2, h3, h4, h5, h6, h7⟩ := H
    refine ⟨vs, h1, fun j u hu => ?_⟩
    rw [← h6, List.getElem?_take] at hu
    split at hu
    · simp only [World.cell?, h2, h0, Nat.zero_add]; simpa using hu
    · cases hu
  | win cs =>
    obtain ⟨vs, h1, h2⟩ := H
    exact ⟨vs, h1, h2⟩
  | mapo ks vs => exact ⟨[], oks_nil, by simp⟩
  | orc l => exact ⟨[], oks_nil, by simp⟩
  | dead => exact ⟨[], oks_nil, by simp⟩
theorem getC_ok (H : HOk W w0 S0 ν h w) {id n : Nat} {off : NN} {r : List S} (hg : getC (std W) (getO h id) off n = some r) :
    ∃ vs, oks h.length ν r vs ∧ vs.length = n ∧ w.rangeAt (ν id).blk ((ν id).base + off.val) vs := by
  obtain ⟨h1, h2⟩ := getC_spec hg
  subst h1
  have key : ∃ vs, oks h.length ν (cellsOf (getO h id)) vs ∧ ∀ j u, vs[j]? = some u → w.cell? ⟨(ν id).blk, (ν id).base + j, none⟩ = some u := by
    rcases getO_spec h id with h3 | h3
    · exact ob_cells (H.ob id _ h3)
    · rw [h3]; exact ⟨[], oks_nil, by simp⟩
  obtain ⟨vs, h3, h4⟩ := key
  have hl := oks_len h3
  refine ⟨(vs.drop off.val).take n, oks_take _ (oks_drop _ h3), by simp; omega, fun j u hu => ?_⟩
  rw [List.getElem?_take] at hu
  split at hu
  · rw [List.getElem?_drop] at hu
    rw [Nat.add_assoc]
    exact h4 _ _ hu
  · cases hu
theorem far_ok (H : HOk W w0 S0 ν h w) {a : Addr} {o n : Nat} {r : List S} (hg : W a o n = some r) : ∃ vs, oks h.length ν r vs ∧ vs.length = n ∧ w.rangeAt a.block (a.off + o) vs := by
  obtain ⟨h1, h2, vs, h3, h4, h5⟩ := H.far a o n r hg
  refine ⟨vs, h3 _ _, h4, fun j u hu => ?_⟩
  refine Eq.trans (World.cell?_of_block (w := w0) ?_) (h5 j u hu)
  exact H.upd.block a.block h1 h2
theorem load_all {t : TypeId} {ti : TI} (hti : TIOk P t ti) (hag : ti.agg = true) {b o : Nat} {r : List S} {vs : List Value} (h1 : oks h.length ν r vs) (h2 : vs.length = ti.size) (h3 : w.rangeAt b o vs) :
    ∃ u, (S.agg r).ok h.length ν u ∧ (Instr.loadAt t (.pointer (some ⟨b, o, none⟩))).run P w = .ok u w := by
  refine ⟨.agg vs.toArray, by simp only [S.ok]; exact ⟨vs, rfl, h1⟩, ?_⟩
  obtain ⟨d, hd⟩ := hti.und
  obtain ⟨i, z, zs, hi1, hi2, _⟩ := hti.info
  have hrow : d.isRow = true := by
    have hdd := hti.desc
    cases hq : ti.d <;> simp only [hq, hd] at hdd <;> simp [TI.agg, hq] at hag
    case arr => cases hdd; rfl
    case struct => obtain ⟨fa, hfa, _⟩ := hdd; cases hfa; rfl
  simp only [Instr.loadAt, Instr.sureAddr, Sem.run_bind, Sem.run_pure, Result.andThen_ok]
  exact run_loadVar_mid w _ _ t vs d h3 hd hrow (by rw [hi1, h2]; simp [hi2])
theorem load_one {t : TypeId} {ti : TI} (hti : TIOk P t ti) (hag : ti.agg = false) {b o : Nat} {x : S} {vs : List Value} (h1 : oks h.length ν [x] vs) (h3 : w.rangeAt b o vs) :
    ∃ u, x.ok h.length ν u ∧ (Instr.loadAt t (.pointer (some ⟨b, o, none⟩))).run P w = .ok u w := by
  simp only [S.oks] at h1
  obtain ⟨u, _, rfl, h4, rfl⟩ := h1
  refine ⟨u, h4, ?_⟩
  have hc := h3 0 u rfl
  simp only [Nat.add_zero] at hc
  simp [Instr.loadAt, Instr.sureAddr, loadVar, run_agg hti, hag, load, Sem.run, hc]
theorem loadS_sound (hT : TOk P tt) (H : HOk W w0 S0 ν h w) {t : TypeId} {a r : S} {v : Value} (hl : loadS (std W) tt t a h = some r) (ha : a.ok h.length ν v) : ∃ u, r.ok h.length ν u ∧ (Instr.loadAt t v).run P w = .ok u w := by
  unfold loadS at hl
  split at hl
  case h_3 => cases hl
  · rename_i id off
    split at hl
    case h_2 => cases hl
    rename_i ti ht
    have hti := hT t ti ht
    simp only [S.ok] at ha
    obtain ⟨_, rfl⟩ := ha
    split at hl
    · rename_i hag
      split at hl
      case h_2 => cases hl
      rename_i r' hg
      simp only [Option.some.injEq] at hl
      subst hl
      obtain ⟨vs, h1, h2, h3⟩ := getC_ok H hg
      exact load_all hti hag h1 h2 h3
    · rename_i hag
      split at hl
      case h_2 => cases hl
      rename_i x hg
      split at hl
      case isFalse => cases hl
      simp only [Option.some.injEq] at hl
      subst hl
      obtain ⟨vs, h1, h2, h3⟩ := getC_ok H hg
      exact load_one hti hag h1 h3
  · rename_i a off
    split at hl
    case h_2 => cases hl
    rename_i ti ht
    have hti := hT t ti ht
    simp only [S.ok] at ha
    subst ha
    split at hl
    · rename_i hag
      split at hl
      case h_2 => cases hl
      rename_i r' hg
      simp only [Option.some.injEq] at hl
      subst hl
      obtain ⟨vs, h1, h2, h3⟩ := far_ok H hg
      exact load_all hti hag h1 h2 h3
    · rename_i hag
      split at hl
      case h_2 => cases hl
      rename_i x hg
      split at hl
      case isFalse => cases hl
      simp only [Option.some.injEq] at hl
      subst hl
      obtain ⟨vs, h1, h2, h3⟩ := far_ok H hg
      exact load_one hti hag h1 h3

theorem setCells_heap {b : Nat} (T : TypeId) (us : List Value) : ∀ {w : World} {cs : List Value} (o : Nat), w.heap[b]? = some (.cells cs.toArray T (0, 0)) → o + us.length ≤ cs.length → (w.setCells b o us).heap[b]? = some (.cells (cs.take o ++ us ++ cs.drop (o + us.length)).toArray T (0, 0)) := by
  induction us with
  | nil => intro w cs o hb _; simpa [World.setCells] using hb
  | cons v us ih =>
    intro w cs o hb ho
    simp only [List.length_cons] at ho
    rw [← splice_cons cs o v us (by omega)]
    refine ih (o + 1) ?_ (by simp; omega)
    have hlt := lt_of_blk hb
    have hb' : w.heap[b] = .cells cs.toArray T (0, 0) := by simpa [Array.getElem?_eq_getElem hlt] using hb
    show (w.heap.modify b _)[b]? = _
    rw [Array.getElem?_eq_getElem (by simpa using hlt), Array.getElem_modify_self, hb']
    simp
theorem setCells_upd {b : Nat} (us : List Value) : ∀ (w : World) (o : Nat), Upd [b] w (w.setCells b o us) := by
  induction us with
  | nil => intro w o; exact Upd.refl _ _
  | cons v us ih => intro w o; exact ((Upd.refl [b] w).setCell ⟨b, o, none⟩ v (Or.inl (by simp))).trans (ih _ (o + 1))
theorem run_storeAt {t : TypeId} {ti : TI} (hti : TIOk P t ti) {b o : Nat} {T : TypeId} {full : List Value} {v : Value} (hb : w.heap[b]? = some (.cells full.toArray T (0, 0))) (hl : v.cells.toList.length = ti.size) (h1 : ∀ u ∈ v.cells.toList, u.oneCell' = true) (ho : o + v.cells.toList.length ≤ full.length) :
    (Instr.storeAt t (.pointer (some ⟨b, o, none⟩)) v).run P w = .ok () (w.setCells b o v.cells.toList) := by
  have hst := run_storeCells_cells (P := P) b o v.cells.toList 0 w
    (fun j hj => by simp only [World.cell?, hb]; simp; simp at hj ho; omega)
    (fun j hj => by simp [World.frozen?, hb]) h1
  have hs : ¬ v.cells.size ≠ ti.size := by rw [← hl]; simp
  simp only [Nat.add_zero] at hst
  simp only [Instr.storeAt, Instr.sureAddr, storeVar, Sem.run_bind, Sem.run_pure, Result.andThen_ok, run_size hti, if_neg hs, hst]
theorem take_splice {full us : List Value} {off k : Nat} (h : off + us.length ≤ k) (hk : k ≤ full.length) : (full.take off ++ us ++ full.drop (off + us.length)).take k = (full.take k).take off ++ us ++ (full.take k).drop (off + us.length) := by
  have e1 : full.take off = (full.take k).take off := by rw [List.take_take, Nat.min_eq_left (by omega)]
  have e2 : full.drop (off + us.length) = (full.take k).drop (off + us.length) ++ full.drop k := by
    conv => lhs; rw [← List.take_append_drop k full]
    rw [List.drop_append_of_le_length (by simp; omega)]
  rw [e1, e2, ← List.append_assoc]
  exact List.take_left' (by simp; omega)
theorem storeS_sound (hT : TOk P tt) (H : HOk W w0 S0 ν h w) {t : TypeId} {a x : S} {av xv : Value} {h' : List Ob} (hs : storeS tt t a x h = some h') (ha : a.ok h.length ν av) (hx : x.ok h.length ν xv) :
    ∃ w', (Instr.storeAt t av xv).run P w = .ok () w' ∧ HOk W w0 S0 ν h' w' ∧ h'.length = h.length := by
  unfold storeS at hs
  split at hs
  case h_2 => cases hs
  rename_i id off
  split at hs
  case h_2 => cases hs
  rename_i ti ht
  have hti := hT t ti ht
  split at hs
  case isFalse => cases hs
  rename_i hsz
  split at hs
  case h_2 => cases hs
  rename_i hon
  split at hs
  case h_2 => cases hs
  rename_i o' hput
  simp only [Option.some.injEq] at hs
  subst hs
  simp only [S.ok] at ha
  obtain ⟨hid, rfl⟩ := ha
  obtain ⟨hc, h1⟩ := cs_ok hon hx
  have hcl := oks_len hc
  rw [setO_eq]
  have ho : h[id]? = some (getO h id) := by
    rcases getO_spec h id with ho | ho
    · exact ho
    · rw [ho] at hput; simp [putOb] at hput
  have hob := H.ob id _ ho
  generalize getO h id = o at ho hput hob
  cases o with
  | cells T cs =>
    simp only [putOb] at hput
    split at hput
    case h_2 => cases hput
    rename_i r hr
    simp only [Option.some.injEq] at hput
    subst hput
    obtain ⟨rfl, hle⟩ := putL_spec hr
    obtain ⟨hb0, vs, h2, h3⟩ := hob
    have hl := oks_len h2
    refine ⟨_, ?_, H.put (.cells T _) ho rfl rfl (setCells_upd xv.cells.toList w off) ⟨hb0, _, ?_, setCells_heap T xv.cells.toList off h3 (by omega)⟩, by simp⟩
    · rw [hb0, Nat.zero_add]
      exact run_storeAt hti h3 (by omega) h1 (by simp only [NN.val]; omega)
    · rw [hcl]
      exact oks_append (oks_append (oks_take _ h2) hc) (oks_drop _ h2)
  | row T sz n cs =>
    cases n with
    | v n => simp [putOb] at hput
    | l n =>
    simp only [putOb] at hput
    split at hput
    case h_2 => cases hput
    rename_i r hr
    simp only [Option.some.injEq] at hput
    subst hput
    obtain ⟨rfl, hle⟩ := putL_spec hr
    obtain ⟨hb0, vs, cur, h2, h3, h4, h5, h6, h7, h8⟩ := hob
    have hl := oks_len h2
    have h3' : w.heap[(ν id).blk]? = some (.cells cur.toList.toArray T (0, 0)) := by simpa using h3
    have hlen : vs.length ≤ cur.toList.length := by rw [← h7]; simp only [List.length_take]; omega
    have hset := setCells_heap T xv.cells.toList off h3' (by omega)
    refine ⟨_, ?_, H.put (.row T sz (.l n) _) ho rfl rfl (setCells_upd xv.cells.toList w off) ⟨hb0, vs.take off ++ xv.cells.toList ++ vs.drop (off + xv.cells.toList.length), _, ?_, hset, h4, h5, ?_, ?_, ?_⟩, by simp⟩
    · rw [hb0, Nat.zero_add]
      exact run_storeAt hti h3' (by omega) h1 (by simp only [NN.val]; omega)
    · rw [hcl]
      exact oks_append (oks_append (oks_take _ h2) hc) (oks_drop _ h2)
    · rw [← h6]
      simp only [List.length_append, List.length_take, List.length_drop, ← Array.length_toList]
      omega
    · have h8' : vs.length = n * sz := h8
      rw [← h7]
      exact take_splice (by omega) (by omega)
    · have h8' : vs.length = n * sz := h8
      simp only [List.length_append, List.length_take, List.length_drop, NN.val]
      omega
  | win cs => simp [putOb] at hput
  | mapo ks vs => simp [putOb] at hput
  | orc l => simp [putOb] at hput
  | dead => simp [putOb] at hput
theorem run_alloc {t : TypeId} {ti : TI} (hti : TIOk P t ti) : ∃ vs, (∀ m ν, oks m ν ti.zero vs) ∧ vs.length = ti.size ∧ ∀ w, (Instr.alloc t true (.tuple #[])).run P w = .ok (.pointer (some ⟨w.heap.size, 0, none⟩)) (w.alloc (.cells vs.toArray t (0, 0))) := by
  obtain ⟨z, vs, h1, h2, h3⟩ := run_zero hti
  refine ⟨vs, h2, by rw [oks_len (h2 0 fun _ => ⟨0, 0, 0⟩), hti.zl], fun w => ?_⟩
  simp [Instr.alloc, h3, newVar, newRow, newObj, Sem.run, h1]
theorem run_box {t : TypeId} {v : Value} (w : World) : (Instr.box t v).run P w = .ok (.pointer (some ⟨w.heap.size, 0, none⟩)) (w.alloc (.cells v.cells t (0, 0))) := by
  simp [Instr.box, newVar, newRow, newObj, Sem.run]

theorem reps_ok {m : Nat} {ν : Nat → Env} {z : List S} {zs : List Value} (h : oks m ν z zs) : ∀ n, ∃ vs, oks m ν (reps z n) vs ∧ vs = (List.replicate n zs).flatten
  | 0 => ⟨[], oks_nil, by simp⟩
  | n + 1 => by
    obtain ⟨vs, h1, rfl⟩ := reps_ok h n
    exact ⟨zs ++ (List.replicate n zs).flatten, oks_append h h1, by simp [List.replicate_succ]⟩
theorem range_mod (zs : List Value) (n : Nat) (hz : zs ≠ []) : (Array.range (n * zs.length)).map (fun i => zs.toArray[i % zs.toArray.size]!) = (List.replicate n zs).flatten.toArray := by
  apply Array.toList_inj.1
  have hpos : 0 < zs.length := List.length_pos_iff.2 hz
  apply List.ext_getElem
  · simp
  · intro i h1 h2
    simp only [Array.toList_map, Array.toList_range, List.getElem_map, List.getElem_range]
    have hi : i < n * zs.length := by simpa using h1
    have hm : i % zs.length < zs.length := Nat.mod_lt _ hpos
    have key : ∀ (n i : Nat) (h : i < ((List.replicate n zs).flatten).length), ((List.replicate n zs).flatten)[i] = zs[i % zs.length]'(Nat.mod_lt _ hpos) := by
      intro n
      induction n with
      | zero => intro i h; simp at h
      | succ n ih =>
        intro i h
        simp only [List.replicate_succ, List.flatten_cons, List.getElem_append]
        split
        · rename_i hlt; congr 1; exact (Nat.mod_eq_of_lt hlt).symm
        · rename_i hge
          rw [ih]
          congr 1
          conv => rhs; rw [← Nat.sub_add_cancel (Nat.le_of_not_lt hge)]
          simp
    have h3 := key n i (by simpa using h2)
    simp only [List.size_toArray, List.getElem!_toArray]
    rw [getElem!_pos zs _ hm]
    exact h3.symm
theorem foldl_size (off : Nat) : ∀ (l : List (Value × Nat)) (c : Array Value), (l.foldl (fun (a : Array Value) (x : Value × Nat) => a.setIfInBounds (off + x.2) x.1) c).size = c.size
  | [], c => rfl
  | x :: l, c => by simp only [List.foldl_cons]; rw [foldl_size off l]; simp
theorem buildSl_sound (hT : TOk P tt) {t : TypeId} {len : Nat} {ps : Array (Nat × Operand)} {ev : Operand → S} {ρ : Operand → Value} {e : TypeId} {sz : Nat} {cs : List S} (hev : ∀ x, (ev x).ok h.length ν (ρ x)) (hb : buildSl tt t len (ps.toList.map fun x => (x.1, ev x.2)) = some (e, sz, cs)) :
    ∃ vs, oks h.length ν cs vs ∧ vs.length = len * sz ∧ len ≤ maxLen ∧ ∀ w, (Instr.buildSlice t len (ps.map fun (i, x) => (i, ρ x))).run P w = .ok (.slice (some ⟨w.heap.size, 0, none⟩) len len) (w.alloc (.cells vs.toArray e (0, 0))) := by
  unfold buildSl at hb
  split at hb
  case h_2 => cases hb
  rename_i ti ht
  have hd := (hT t ti ht).desc
  split at hb
  case h_2 => cases hb
  rename_i e' hdd
  simp only [hdd] at hd
  split at hb
  case h_2 => cases hb
  rename_i te hte
  have hte' := hT e' te hte
  split at hb
  case isFalse => cases hb
  rename_i hle
  split at hb
  case h_2 => cases hb
  rename_i cs' hf
  simp only [Option.some.injEq, Prod.mk.injEq] at hb
  obtain ⟨rfl, rfl, rfl⟩ := hb
  obtain ⟨z, zs, hz, hzo, hzr⟩ := run_zero hte'
  have hzl : zs.length = te.size := by rw [oks_len (hzo 0 fun _ => ⟨0, 0, 0⟩), hte'.zl]
  obtain ⟨rs, h1, h2⟩ := reps_ok (hzo h.length ν) len
  obtain ⟨us, h3, h4⟩ := fillS_ok hev ps.toList hf h1
  have hul : us.length = len * te.size := by
    have hsz : ∀ (place : Nat → Option (Nat × Nat)) (ps : List (Nat × Value)) (c r : Array Value), Instr.fill place c ps = some r → r.size = c.size := by
      intro place ps
      induction ps with
      | nil => intro c r h; simp only [Instr.fill, Option.some.injEq] at h; rw [h]
      | cons p ps ih =>
        intro c r h
        obtain ⟨i, v⟩ := p
        simp only [Instr.fill] at h
        split at h
        · cases h
        · split at h
          · cases h
          · rw [ih _ _ h]
            rw [← Array.foldl_toList]
            exact foldl_size _ _ _
    have := hsz _ _ _ _ h4
    rw [h2] at this
    simpa [hzl] using this
  rw [Nat.mul_succ] at hle
  refine ⟨us, h3, hul, Nat.le_trans (by omega : len ≤ 16777216) (by decide), fun w => ?_⟩
  have hcell : (if len * te.size = 0 then (#[] : Array Value) else z.cells) = (if len * te.size = 0 then #[] else zs.toArray) := by rw [hz]
  by_cases h0 : len * te.size = 0
  · have hr0 : rs = [] := by
      have : rs.length = 0 := by rw [h2]; simpa [hzl] using h0
      exact List.length_eq_zero_iff.1 this
    rw [hr0] at h4
    simp only [Instr.buildSlice, Sem.run_bind, run_underlying hd, Result.andThen_ok, run_size hte', h0, if_true, map_pairs]
    have e1 : ∀ f : Nat → Value, (Array.range 0).map f = #[] := by intro f; simp
    simp only [e1]
    simp [h4, newRow, newObj, Sem.run]
  · have hzn : zs ≠ [] := by
      intro hn; rw [hn] at hzl; simp at hzl; rw [← hzl] at h0; simp at h0
    have hrm := range_mod zs len hzn
    rw [← h2, hzl] at hrm
    have hzsz : z.cells = zs.toArray := hz
    simp only [Instr.buildSlice, Sem.run_bind, run_underlying hd, Result.andThen_ok, run_size hte', show ¬ (len * te.size > 2 ^ 24) by omega, if_false, h0, hzr, Sem.run_pure, map_pairs, hzsz, hrm, h4]
    simp [newRow, newObj, Sem.run]

theorem run_append_zero {t e : TypeId} {te : TI} (ht : P.underlying t = some (.slice e)) (hte : TIOk P e te) (ty : TypeId) (b : Option Addr) (n c : Nat) (hn : n ≤ c) (yb : Option Addr) (yc : Nat) (w : World) :
    (Builtin.append_ #[t, t] ty #[.slice b n c, .slice yb 0 yc]).run P w = .ok (.slice b n c) w := by
  cases b <;> cases yb <;> simp [Builtin.append_, run_underlying ht, run_size hte, Builtin.lenOf, Builtin.firstCells, hn, loadCells, loadCellsFrom, storeCells]
theorem run_append_cap0 {t e : TypeId} {te : TI} (ht : P.underlying t = some (.slice e)) (hte : TIOk P e te) (ty : TypeId) (b a : Addr) (m c : Nat) (hm : m ≠ 0) (hb : m * te.bytes ≤ 140737488355328) (w : World) :
    (Builtin.append_ #[t, t] ty #[.slice (some b) 0 0, .slice (some a) m c]).run P w = (Builtin.append_ #[t, t] ty #[.slice none 0 0, .slice (some a) m c]).run P w := by
  obtain ⟨i, z, vs, h1, h2, h3, h4, _⟩ := hte.info
  have hc : ¬ (Builtin.nextslicecap m 0 * i.bytes > 2 ^ 48) := by
    have : Builtin.nextslicecap m 0 = m := by unfold Builtin.nextslicecap; rw [if_pos (by omega)]
    rw [this, h3]; omega
  simp [Builtin.append_, run_underlying ht, sizeOf, typeInfo, h1, h2, Builtin.lenOf, hm, Builtin.firstCells, loadCells, loadCellsFrom, hc]
theorem beq_cast (x y : Nat) : (((x : Int) == (y : Int)) : Bool) = decide (x = y) := by
  by_cases h : x = y
  · simp [h]
  · simp [h]; omega
theorem eqN_std (a b : NN) : eqN (std W) a b = decide (a.val = b.val) := by
  cases a <;> cases b <;> simp only [eqN, NN.val, std, stdB, NN.z_eq]
  · rename_i x y; by_cases h : x = y <;> simp [h]
  all_goals exact beq_cast _ _
theorem newsS_ok (H : HOk W w0 S0 ν h w) {sz : Nat} {y : S} {v : Value} {n : NN} {r : List S} (hn : newsS (std W) sz y h = some (n, r)) (hy : y.ok h.length ν v) :
    ∃ b c us, v = .slice b n.val c ∧ oks h.length ν r us ∧ us.length = n.val * sz ∧ (∀ u ∈ us, u.oneCell' = true) ∧ (n.val = 0 ∨ ∃ a, b = some a ∧ ∀ j u, us[j]? = some u → w.cell? (a.add j) = some u) := by
  unfold newsS at hn
  split at hn
  · rename_i id off len c
    split at hn
    case h_2 => cases hn
    rename_i r' hg
    split at hn
    case h_2 => cases hn
    rename_i hon
    simp only [Option.some.injEq, Prod.mk.injEq] at hn
    obtain ⟨rfl, rfl⟩ := hn
    obtain ⟨vs, h1, h2, h3⟩ := getC_ok H hg
    simp only [S.ok] at hy
    obtain ⟨_, _, _, a, rfl, ha⟩ := hy
    have ha := ha (Or.inl trivial)
    subst ha
    refine ⟨_, _, vs, rfl, h1, by rw [h2, mulN_val], ones_ok hon h1, Or.inr ⟨_, rfl, fun j u hu => ?_⟩⟩
    rw [add_addr]
    exact h3 j u hu
  · split at hn
    · simp only [Option.some.injEq, Prod.mk.injEq] at hn
      obtain ⟨rfl, rfl⟩ := hn
      simp only [S.ok] at hy
      subst hy
      exact ⟨_, _, [], rfl, oks_nil, by simp [NN.val], by simp, Or.inl rfl⟩
    · rename_i b o n c
      split at hn
      case h_2 => cases hn
      rename_i r' hg
      split at hn
      case h_2 => cases hn
      rename_i hon
      simp only [Option.some.injEq, Prod.mk.injEq] at hn
      obtain ⟨rfl, rfl⟩ := hn
      obtain ⟨vs, h1, h2, h3⟩ := far_ok H hg
      simp only [S.ok] at hy
      subst hy
      refine ⟨_, _, vs, rfl, h1, by rw [h2, mulN_val], ones_ok hon h1, Or.inr ⟨_, rfl, fun j u hu => ?_⟩⟩
      rw [add_addr]
      exact h3 j u hu
    · cases hn
  · cases hn
theorem catS_eq (lit : Bool) (a b : List S) : catS (std W) lit a b = a ++ b := by cases lit <;> rfl
theorem appS_sound (hT : TOk P tt) (H : HOk W w0 S0 ν h w) {t ty : TypeId} {x y : S} {xv yv : Value} {K : S → List Ob → Prop} (hk : appS (std W) tt t x y h K) (hx : x.ok h.length ν xv) (hy : y.ok h.length ν yv) :
    ∃ s h' ν' v w', K s h' ∧ (Builtin.append_ #[t, t] ty #[xv, yv]).run P w = .ok v w' ∧ s.ok h'.length ν' v ∧ h.length ≤ h'.length ∧ (∀ i, i < h.length → ν' i = ν i) ∧ HOk W w0 S0 ν' h' w' := by
  unfold appS at hk
  split at hk
  case h_2 => exact hk.elim
  rename_i ti ht
  have hd := (hT t ti ht).desc
  split at hk
  case h_2 => exact hk.elim
  rename_i e hdd
  simp only [hdd] at hd
  split at hk
  case h_2 => exact hk.elim
  rename_i te hte
  have hte' := hT e te hte
  split at hk
  · exact hk.elim
  rename_i hsz0
  split at hk
  case h_2 => exact hk.elim
  rename_i m news hnews
  obtain ⟨yb, yc, us, rfl, hu1, hu2, hu3, hu4⟩ := newsS_ok H hnews hy
  obtain ⟨i, z, zs, hi1, hi2, hi3, hi4, hi5, hi6⟩ := hte'.info
  have hzs : z.cells.size = te.size := by rw [hi5]; simp [oks_len (hi6.1 0 fun _ => ⟨0, 0, 0⟩), hte'.zl]
  have hbyt : ∀ k : Nat, k * (te.bytes + 1) ≤ 140737488355328 → k * te.bytes ≤ 140737488355328 ∧ k ≤ maxLen := by
    intro k hk
    rw [Nat.mul_succ] at hk
    have : (140737488355328 : Nat) ≤ maxLen := by decide
    omega
  split at hk
  · -- to nil
    split at hk
    case h_2 => exact hk.elim
    simp only [S.ok] at hx
    subst hx
    split at hk
    · rename_i h0
      rw [eqN_std, decide_eq_true_eq] at h0
      have h0' : m.val = 0 := h0
      refine ⟨_, h, ν, _, w, hk, by rw [h0']; exact run_append_zero hd hte' ty none 0 0 (Nat.le_refl _) yb yc w, by simp only [S.ok], Nat.le_refl _, fun _ _ => rfl, H⟩
    · rename_i h0
      rw [eqN_std, decide_eq_true_eq] at h0
      have h0' : m.val ≠ 0 := h0
      obtain ⟨hb, hk⟩ := ifP hk id
      rw [leN_std, decide_eq_true_eq, mulN_val] at hb
      obtain ⟨hb1, hb2⟩ := hbyt _ hb
      obtain ⟨a, rfl, hcell⟩ := hu4.resolve_left h0'
      obtain ⟨v', w', hrun, hown, hgrow, hnil⟩ := run_append_own (P := P) w w.heap.size t ty e i z te.size te.bytes hd hi1 hi4 hi2 hi3 hzs (by omega) (.slice none 0 0) 0 [] ⟨by simp, Or.inl ⟨rfl, rfl⟩⟩ a m.val yc us hu2 hcell hu3 (by omega) (by simpa using hb1) (Nat.le_refl _)
      obtain ⟨hol, hor⟩ := hown
      rcases hor with ⟨rfl, h5⟩ | ⟨g, cap, cur, rfl, hg1, hg2, hg3, hg4, hg5, hg6⟩
      · omega
      have hstep := H.step (S1 := []) (w' := w') ⟨hgrow.os, hgrow.tape, hgrow.output, hgrow.size, fun k hk _ => hgrow.block k hk (by simp [Value.ownBlock])⟩ (by simp)
      have hpush := hstep.push (.row e te.size m news) ⟨g, 0, cap⟩ rfl ⟨rfl, us, cur, hu1, hg2, by simpa using hg3, hg4, hg5, by simpa using hg6, hu2⟩ (Or.inr (Nat.le_trans H.size hg1)) fun j o hj ho => Nat.ne_of_lt (Nat.lt_of_lt_of_le (Ob.holds_lt (H.ob j o hj) ho) hg1)
      refine ⟨_, _, _, _, w', hk, hrun, ?_, by simp, updE_lt, hpush⟩
      have nl0 : (NN.l 0).val = 0 := rfl
      simp only [S.ok, Cap.val, nl0, updE_eq, Nat.sub_zero, List.length_append, List.length_singleton]
      exact ⟨by omega, by omega, hg4, _, by rw [Nat.zero_add], fun _ => by simp⟩
  · -- to a slice
    rename_i id off len c zf
    split at hk
    · rename_i h0
      rw [eqN_std, decide_eq_true_eq] at h0
      have h0' : m.val = 0 := h0
      have hx' := hx
      simp only [S.ok] at hx
      obtain ⟨_, hlc, _, a, rfl, _⟩ := hx
      exact ⟨_, h, ν, _, w, hk, by rw [h0']; exact run_append_zero hd hte' ty _ _ _ hlc yb yc w, hx', Nat.le_refl _, fun _ _ => rfl, H⟩
    · rename_i h0
      rw [eqN_std, decide_eq_true_eq] at h0
      have h0' : m.val ≠ 0 := h0
      split at hk
      · rename_i hc0
        have hlc : len = .l 0 ∧ c = .lit (.l 0) := by
          unfold cap0 at hc0
          split at hc0
          · exact ⟨rfl, rfl⟩
          · cases hc0
        obtain ⟨rfl, rfl⟩ := hlc
        have nl0 : (NN.l 0).val = 0 := rfl
        simp only [S.ok, Cap.val, nl0] at hx
        obtain ⟨_, _, _, xa, rfl, _⟩ := hx
        obtain ⟨hb, hk⟩ := ifP hk (fun x => x)
        rw [leN_std, decide_eq_true_eq, mulN_val] at hb
        obtain ⟨hb1, hb2⟩ := hbyt _ hb
        obtain ⟨a, rfl, hcell⟩ := hu4.resolve_left h0'
        rw [run_append_cap0 hd hte' ty xa a m.val yc h0' hb1]
        obtain ⟨v', w', hrun, hown, hgrow, hnil⟩ := run_append_own (P := P) w w.heap.size t ty e i z te.size te.bytes hd hi1 hi4 hi2 hi3 hzs (by omega) (.slice none 0 0) 0 [] ⟨by simp, Or.inl ⟨rfl, rfl⟩⟩ a m.val yc us hu2 hcell hu3 (by omega) (by simpa using hb1) (Nat.le_refl _)
        obtain ⟨hol, hor⟩ := hown
        rcases hor with ⟨rfl, h5⟩ | ⟨g, cap, cur, rfl, hg1, hg2, hg3, hg4, hg5, hg6⟩
        · omega
        have hstep := H.step (S1 := []) (w' := w') ⟨hgrow.os, hgrow.tape, hgrow.output, hgrow.size, fun k hk _ => hgrow.block k hk (by simp [Value.ownBlock])⟩ (by simp)
        have hpush := hstep.push (.row e te.size m news) ⟨g, 0, cap⟩ rfl ⟨rfl, us, cur, hu1, hg2, by simpa using hg3, hg4, hg5, by simpa using hg6, hu2⟩ (Or.inr (Nat.le_trans H.size hg1)) fun j o hj ho => Nat.ne_of_lt (Nat.lt_of_lt_of_le (Ob.holds_lt (H.ob j o hj) ho) hg1)
        refine ⟨_, _, _, _, w', hk, hrun, ?_, by simp, updE_lt, hpush⟩
        simp only [S.ok, Cap.val, nl0, updE_eq, Nat.sub_zero, List.length_append, List.length_singleton]
        exact ⟨by omega, by omega, hg4, _, by rw [Nat.zero_add], fun _ => by simp⟩
      rename_i hcf
      clear hcf
      split at hk
      all_goals first | exact False.elim hk | skip
      rename_i T sz n cs hob
      obtain ⟨rfl, hk⟩ := ifP hk (fun x => x)
      obtain ⟨rfl, hk⟩ := ifP hk (fun x => x)
      obtain ⟨hnl, hk⟩ := ifP hk (fun x => x)
      obtain ⟨hb, hk⟩ := ifP hk (fun x => x)
      rw [eqN_std, decide_eq_true_eq] at hnl
      rw [leN_std, decide_eq_true_eq, mulN_val, addN_val] at hb
      obtain ⟨hb1, hb2⟩ := hbyt _ hb
      obtain ⟨a, rfl, hcell⟩ := hu4.resolve_left h0'
      have ho : h[id]? = some (.row T te.size n cs) := by
        rcases getO_spec h id with ho | ho
        · rw [hob] at ho; exact ho
        · rw [hob] at ho; cases ho
      obtain ⟨hb0, vs, cur, q1, q2, q3, q4, q5, q6, q7⟩ := H.ob id _ ho
      have nl0 : (NN.l 0).val = 0 := rfl
      simp only [S.ok, Cap.val, nl0, Nat.sub_zero] at hx
      obtain ⟨hid, hlc, _, a', rfl, ha'⟩ := hx
      have ha' := ha' (Or.inl trivial)
      rw [hb0] at ha'
      subst ha'
      have hnl' : n.val = len.val := hnl
      have hown0 : w.ownsRow 0 T te.size (.slice (some ⟨(ν id).blk, 0 + 0, none⟩) len.val (ν id).cap) n.val vs := by
        refine ⟨q7, Or.inr ⟨(ν id).blk, (ν id).cap, cur, ?_, Nat.zero_le _, q2, q3, q4, q5, q6⟩⟩
        rw [hnl']
      obtain ⟨v', w', hrun, hown, hgrow, hnil, hwhere⟩ := run_append_own_at (P := P) w 0 t ty T i z te.size te.bytes hd hi1 hi4 hi2 hi3 hzs (by omega) _ n.val vs hown0 a m.val yc us hu2 hcell hu3 (by omega) (by omega) (Nat.zero_le _)
      obtain ⟨hol, hor⟩ := hown
      rcases hor with ⟨rfl, h5⟩ | ⟨g, cap, cur', rfl, hg1, hg2, hg3, hg4, hg5, hg6⟩
      · omega
      have hg' : g = (ν id).blk ∨ g = w.heap.size := by
        rcases hwhere with h1 | h1 <;> simp only [Value.ownBlock, Option.some.injEq] at h1
        · exact Or.inl h1
        · exact Or.inr h1
      have hkey : ∀ j (o : Ob), (h.set id .dead)[j]? = some o → o.own = true → h[j]? = some o ∧ j ≠ id := by
        intro j o hj hjo
        by_cases hji : j = id
        · subst hji; rw [List.getElem?_set_self (by exact hid)] at hj; cases hj; cases hjo
        · rw [List.getElem?_set_ne (Ne.symm hji)] at hj; exact ⟨hj, hji⟩
      have hstep := (H.kill id).step (S1 := [(ν id).blk]) (w' := w') ⟨hgrow.os, hgrow.tape, hgrow.output, hgrow.size, fun k hk hs => hgrow.block k hk (by simpa [Value.ownBlock] using hs)⟩ (by
        intro x hx
        rw [List.mem_singleton.1 hx]
        refine ⟨H.own id _ ho rfl, fun j o hj hjo => ?_⟩
        obtain ⟨h1, h2⟩ := hkey j o hj hjo
        exact H.apart j id o _ h2 h1 ho hjo rfl)
      have hlen : (h.set id .dead).length = h.length := by simp
      have hcat : catS (std W) (litN n && litN m) cs news = cs ++ news := catS_eq _ _ _
      have hpush := hstep.push (.row T te.size (addN (std W) n m) (cs ++ news)) ⟨g, 0, cap⟩ rfl
        ⟨rfl, vs ++ us, cur', by rw [hlen]; exact oks_append q1 hu1, hg2, by rw [addN_val]; exact hg3, hg4, hg5, by rw [addN_val]; exact hg6, by rw [addN_val]; exact hol⟩
        (by rcases hg' with rfl | rfl
            · exact H.own id _ ho rfl
            · exact Or.inr H.size)
        (fun j o hj hjo => by
          obtain ⟨h1, h2⟩ := hkey j o hj hjo
          rcases hg' with rfl | rfl
          · exact H.apart j id o _ h2 h1 ho hjo rfl
          · exact Nat.ne_of_lt (Ob.holds_lt (H.ob j o h1) hjo))
      rw [setO_eq, hcat] at hk
      refine ⟨_, _, _, _, w', hk, hrun, ?_, by simp, fun j hj => updE_lt j (by rw [hlen]; exact hj), hpush⟩
      simp only [S.ok, Cap.val, nl0, updE_eq, hlen, Nat.sub_zero, List.length_append, List.length_singleton, addN_val]
      rw [← hlen]
      exact ⟨by omega, hg3, hg4, _, rfl, fun _ => by simp⟩
  · exact hk.elim
end
end Go.SX
