/- tape.Parse: what lies in memory while it runs. -/
import Derived.Test.YtdmdnijgjgjmkaaProg
import Derived.Test.YtdmdnijgjgjmkaaTapeTake
import Derived.Test.YtdmdnijgjgjmkaaTapeBytes2
set_option maxRecDepth 20000
namespace Go.Proofs.Ytdmdnijgjgjmkaa
open Go.RowKit

def hd0 : Hd := ⟨0, 0, 0, 0, 0⟩
def arr5 (xs : List Nat) : List Value := u64s xs ++ List.replicate (5 - xs.length) (.int .u64 0)
theorem arr5_len {xs : List Nat} (h : xs.length ≤ 5) : (arr5 xs).length = 5 := by simp [arr5, u64s]; omega
theorem arr5_set {xs : List Nat} (n : Nat) (h : xs.length < 5) : (arr5 xs).set xs.length (.int .u64 (n : Nat)) = arr5 (xs ++ [n]) := by
  have e : (u64s xs).length = xs.length := by simp [u64s]
  unfold arr5
  rw [List.set_append_right _ _ (by omega), e, Nat.sub_self]
  obtain ⟨m, hm⟩ : ∃ m, 5 - xs.length = m + 1 := ⟨5 - xs.length - 1, by omega⟩
  rw [hm, List.length_append, List.length_singleton, show 5 - (xs.length + 1) = m by omega]
  simp [u64s, List.replicate_succ]
/-- The number in a variable. -/
def cellNat (w : World) (b : Nat) : Nat := match w.cell? ⟨b, 0, none⟩ with | some (.int _ z) => z.toNat | _ => 0
theorem cellNat_of {w : World} {b : Nat} {T : TypeId} {k : IntKind} {z : Int} (h : Blk w b T [.int k z]) : cellNat w b = z.toNat := by unfold cellNat; rw [h.get 0 rfl]
structure Ord (w : World) (bb rr hh ha lf eb : Nat) : Prop where
  b : w.heap.size = bb
  r : bb < rr
  h : rr < hh
  a : hh < ha
  l : ha < lf
  e : lf < eb
/-- The variables: the bytes that are left, the result, the head, its numbers, how many operations are left, the error. -/
structure PS (w wr : World) (bb rr hh ha lf eb : Nat) (d : List Nat) (hcs acs : List Value) (L : Nat) : Prop where
  b : ∃ v, Blk wr bb 53 [v] ∧ Vec w v d.length (bys d)
  r : Blk wr rr 64 hd0.cells
  h : Blk wr hh 64 hcs
  a : Blk wr ha 103 acs
  l : Blk wr lf 55 [.int .u64 (L : Nat)]
  e : ∃ x, Blk wr eb 26 [.int .i64 x]
  u : Upd [] w wr
/-- An error is told. -/
structure PE (w w' : World) (rr eb err : Nat) : Prop where
  nz : err ≠ 0
  r : Blk w' rr 64 hd0.cells
  e : Blk w' eb 26 [.int .i64 (err : Nat)]
  u : Upd [] w w'

theorem own_lt' {w : World} {base : Nat} {e : TypeId} {size : Nat} {v : Value} {n : Nat} {xs : List Value} (h : w.ownsRow base e size v n xs) : ∀ k, v.ownBlock = some k → base ≤ k ∧ k < w.heap.size := fun k hk => ⟨own_block h k hk, own_lt h k hk⟩
/-- A row of one's own stays where only blocks below its base, or new ones, turn. -/
theorem own_keep {w w' : World} {base : Nat} {e : TypeId} {size : Nat} {v : Value} {n : Nat} {xs : List Value} {S : List Nat} (h : w.ownsRow base e size v n xs) (u : Upd S w w') (hS : ∀ x ∈ S, x < base ∨ w.heap.size ≤ x) : w'.ownsRow base e size v n xs :=
  own_upd h u fun k hk hks => by have := own_lt' h k hk; have := hS k hks; omega
theorem own_base {w : World} {base base' : Nat} {e : TypeId} {size : Nat} {v : Value} {n : Nat} {xs : List Value} (h : w.ownsRow base e size v n xs) (hb : base' ≤ base) : w.ownsRow base' e size v n xs := by
  obtain ⟨hl, h2⟩ := h
  refine ⟨hl, ?_⟩
  rcases h2 with h0 | ⟨g, cap, cur, rfl, hg, r⟩
  · exact Or.inl h0
  · exact Or.inr ⟨g, cap, cur, rfl, by omega, r⟩
theorem upd_grown {w w' : World} {row : Option Nat} (hg : w.grownBy w' row) : Upd row.toList w w' := (Upd.refl row.toList w).grown hg fun k hk => Or.inl (by simp [hk])
/-- A row of another type stays where one row grows. -/
theorem own_grown {w w' : World} {base base' : Nat} {e e' : TypeId} {size size' : Nat} {v v' : Value} {n n' : Nat} {xs xs' : List Value} (h : w.ownsRow base e size v n xs) (h' : w.ownsRow base' e' size' v' n' xs') (hg : w.grownBy w' v'.ownBlock) (hne : e ≠ e') :
    w'.ownsRow base e size v n xs := by
  refine own_upd h (upd_grown hg) fun k hk hk' => ?_
  have hk2 : v'.ownBlock = some k := by simpa using hk'
  rcases h.2 with ⟨rfl, _⟩ | ⟨g, cp, cur, rfl, _, hh, _⟩
  · simp [Value.ownBlock] at hk
  rcases h'.2 with ⟨rfl, _⟩ | ⟨g', cp', cur', rfl, _, hh', _⟩
  · simp [Value.ownBlock] at hk2
  simp only [Value.ownBlock, Option.some.injEq] at hk hk2
  subst hk
  subst hk2
  rw [hh] at hh'
  simp only [Option.some.injEq, Obj.cells.injEq] at hh'
  exact hne hh'.2.1
/-- An operation whose numbers lie in a row of the call's own. -/
structure OwnOp (base : Nat) (w : World) (o : OpD) : Prop where
  row : w.ownsRow base 55 1 o.v o.ns.length (u64s o.ns)
  w64 : ∀ n ∈ o.ns, W64 n
theorem OwnOp.ok {base : Nat} {w : World} {o : OpD} (h : OwnOp base w o) : OpOk w o := ⟨vec_of_own h.row, h.w64⟩
theorem OwnOp.keep {base : Nat} {w w' : World} {o : OpD} {S : List Nat} (h : OwnOp base w o) (u : Upd S w w') (hS : ∀ x ∈ S, x < base ∨ w.heap.size ≤ x) : OwnOp base w' o := ⟨own_keep h.row u hS, h.w64⟩
theorem opCells_append (a b : List OpD) : opCells (a ++ b) = opCells a ++ opCells b := by simp [opCells]
theorem u64s_append (a b : List Nat) : u64s (a ++ b) = u64s a ++ u64s b := by simp [u64s]
theorem info_op : (Try.prog.info? 68).map (fun i => (i.zero, i.size, i.bytes)) = some (some (.agg #[.int .i64 0, .slice none 0 0]), 2, 32) := by kernel_rfl
theorem chk_big {k : Int} (h : 24 < k) (zs : List Nat) : chk k zs = 9 := by
  unfold chk
  rw [show shapeAt k = noShape from if_pos (Or.inr h), if_pos (show noShape.word = [] from rfl)]
section
variable {w wr w' : World} {bb rr hh ha lf eb : Nat} {d : List Nat} {hcs acs : List Value} {L : Nat}
theorem PS.keep (O : Ord w bb rr hh ha lf eb) (h : PS w wr bb rr hh ha lf eb d hcs acs L) {S : List Nat} (hu : Upd S wr w') (hS : ∀ x ∈ S, eb < x) : PS w w' bb rr hh ha lf eb d hcs acs L := by
  obtain ⟨o0, o1, o2, o3, o4, o5⟩ := O
  obtain ⟨⟨v, h1, h2⟩, h3, h4, h5, h6, ⟨x, h7⟩, h8⟩ := h
  exact ⟨⟨v, h1.upd hu (fun hx => by have := hS _ hx; omega), h2⟩, h3.upd hu (fun hx => by have := hS _ hx; omega), h4.upd hu (fun hx => by have := hS _ hx; omega), h5.upd hu (fun hx => by have := hS _ hx; omega),
    h6.upd hu (fun hx => by have := hS _ hx; omega), ⟨x, h7.upd hu (fun hx => by have := hS _ hx; omega)⟩, h8.and hu (fun y hy => Or.inr (by have := hS _ hy; omega))⟩
theorem PS.err (O : Ord w bb rr hh ha lf eb) (h : PS w wr bb rr hh ha lf eb d hcs acs L) {err : Nat} (he : err ≠ 0) (hE : Blk w' eb 26 [.int .i64 (err : Nat)]) (hu : Upd [eb] wr w') : PE w w' rr eb err := by
  obtain ⟨o0, o1, o2, o3, o4, o5⟩ := O
  exact ⟨he, h.r.upd hu (by simp; omega), hE, h.u.and hu (fun y hy => Or.inr (by simp at hy; omega))⟩
theorem PS.setE (O : Ord w bb rr hh ha lf eb) (h : PS w wr bb rr hh ha lf eb d hcs acs L) {x : Int} (hE : Blk w' eb 26 [.int .i64 x]) (hu : Upd [eb] wr w') : PS w w' bb rr hh ha lf eb d hcs acs L := by
  obtain ⟨o0, o1, o2, o3, o4, o5⟩ := O
  obtain ⟨⟨v, h1, h2⟩, h3, h4, h5, h6, _, h8⟩ := h
  exact ⟨⟨v, h1.upd hu (by simp; omega), h2⟩, h3.upd hu (by simp; omega), h4.upd hu (by simp; omega), h5.upd hu (by simp; omega), h6.upd hu (by simp; omega), ⟨x, hE⟩, h8.and hu (fun y hy => Or.inr (by simp at hy; omega))⟩
theorem PS.setH (O : Ord w bb rr hh ha lf eb) (h : PS w wr bb rr hh ha lf eb d hcs acs L) {cs : List Value} (hH : Blk w' hh 64 cs) (hu : Upd [hh] wr w') : PS w w' bb rr hh ha lf eb d cs acs L := by
  obtain ⟨o0, o1, o2, o3, o4, o5⟩ := O
  obtain ⟨⟨v, h1, h2⟩, h3, h4, h5, h6, ⟨x, h7⟩, h8⟩ := h
  exact ⟨⟨v, h1.upd hu (by simp; omega), h2⟩, h3.upd hu (by simp; omega), hH, h5.upd hu (by simp; omega), h6.upd hu (by simp; omega), ⟨x, h7.upd hu (by simp; omega)⟩, h8.and hu (fun y hy => Or.inr (by simp at hy; omega))⟩
theorem PS.setL (O : Ord w bb rr hh ha lf eb) (h : PS w wr bb rr hh ha lf eb d hcs acs L) {M : Nat} (hL : Blk w' lf 55 [.int .u64 (M : Nat)]) (hu : Upd [lf] wr w') : PS w w' bb rr hh ha lf eb d hcs acs M := by
  obtain ⟨o0, o1, o2, o3, o4, o5⟩ := O
  obtain ⟨⟨v, h1, h2⟩, h3, h4, h5, h6, ⟨x, h7⟩, h8⟩ := h
  exact ⟨⟨v, h1.upd hu (by simp; omega), h2⟩, h3.upd hu (by simp; omega), h4.upd hu (by simp; omega), h5.upd hu (by simp; omega), hL, ⟨x, h7.upd hu (by simp; omega)⟩, h8.and hu (fun y hy => Or.inr (by simp at hy; omega))⟩
/-- A number into the head's numbers. -/
theorem take_a (O : Ord w bb rr hh ha lf eb) (h : PS w wr bb rr hh ha lf eb d hcs acs L) (hd : ∀ x ∈ d, x < 256) (g great i : Nat) (hi : i < acs.length) (hg : g < 18446744073709551616) (hgr : great ≠ 0 ∧ great < 100) :
    Calls Try.prog 50 #[.pointer (some ⟨ha, i, none⟩), .int .u64 g, .int .i64 great, .pointer (some ⟨bb, 0, none⟩), .pointer (some ⟨eb, 0, none⟩)] wr fun e w' =>
      (∃ err, takeP g great d = .error err ∧ e = .returned (.bool false) ∧ PE w w' rr eb err) ∨ (∃ n d', takeP g great d = .ok (n, d') ∧ e = .returned (.bool true) ∧ PS w w' bb rr hh ha lf eb d' hcs (acs.set i (.int .u64 (n : Nat))) L) := by
  have O' := O
  obtain ⟨o0, o1, o2, o3, o4, o5⟩ := O'
  have h' := h
  obtain ⟨⟨v, h1, h2⟩, h3, h4, h5, h6, ⟨x, h7⟩, h8⟩ := h'
  refine (tape_take w v d g great ha i bb eb _ _ _ wr hd h2 h8 h5 hi h1 h7 (by omega) (by omega) (by omega) hg hgr).mono ?_
  rintro e w' (⟨err, e1, e2, rfl, e3, e4⟩ | ⟨n, d', e1, rfl, e3, v', e4, e5, e6⟩)
  · exact Or.inl ⟨err, e1, rfl, h.err O e2 e3 e4⟩
  · refine Or.inr ⟨n, d', e1, rfl, ⟨⟨v', e4, e5⟩, h3.upd e6 (by simp; omega), h4.upd e6 (by simp; omega), e3, h6.upd e6 (by simp; omega), ⟨x, h7.upd e6 (by simp; omega)⟩, h8.and e6 (fun y hy => Or.inr (by simp at hy; omega))⟩⟩
/-- The number of operations. -/
theorem take_l (O : Ord w bb rr hh ha lf eb) (h : PS w wr bb rr hh ha lf eb d hcs acs L) (hd : ∀ x ∈ d, x < 256) (g great : Nat) (hg : g < 18446744073709551616) (hgr : great ≠ 0 ∧ great < 100) :
    Calls Try.prog 50 #[.pointer (some ⟨lf, 0, none⟩), .int .u64 g, .int .i64 great, .pointer (some ⟨bb, 0, none⟩), .pointer (some ⟨eb, 0, none⟩)] wr fun e w' =>
      (∃ err, takeP g great d = .error err ∧ e = .returned (.bool false) ∧ PE w w' rr eb err) ∨ (∃ n d', takeP g great d = .ok (n, d') ∧ e = .returned (.bool true) ∧ PS w w' bb rr hh ha lf eb d' hcs acs n) := by
  have O' := O
  obtain ⟨o0, o1, o2, o3, o4, o5⟩ := O'
  have h' := h
  obtain ⟨⟨v, h1, h2⟩, h3, h4, h5, h6, ⟨x, h7⟩, h8⟩ := h'
  refine (tape_take w v d g great lf 0 bb eb _ _ _ wr hd h2 h8 h6 (by simp) h1 h7 (by omega) (by omega) (by omega) hg hgr).mono ?_
  rintro e w' (⟨err, e1, e2, rfl, e3, e4⟩ | ⟨n, d', e1, rfl, e3, v', e4, e5, e6⟩)
  · exact Or.inl ⟨err, e1, rfl, h.err O e2 e3 e4⟩
  · refine Or.inr ⟨n, d', e1, rfl, ⟨⟨v', e4, e5⟩, h3.upd e6 (by simp; omega), h4.upd e6 (by simp; omega), h5.upd e6 (by simp; omega), e3, ⟨x, h7.upd e6 (by simp; omega)⟩, h8.and e6 (fun y hy => Or.inr (by simp at hy; omega))⟩⟩
/-- A number into another variable. -/
theorem take_o (O : Ord w bb rr hh ha lf eb) (h : PS w wr bb rr hh ha lf eb d hcs acs L) (hd : ∀ x ∈ d, x < 256) (g great tb : Nat) (ht : eb < tb) {x0 : Value} (hT : Blk wr tb 55 [x0]) (hg : g < 18446744073709551616) (hgr : great ≠ 0 ∧ great < 100) :
    Calls Try.prog 50 #[.pointer (some ⟨tb, 0, none⟩), .int .u64 g, .int .i64 great, .pointer (some ⟨bb, 0, none⟩), .pointer (some ⟨eb, 0, none⟩)] wr fun e w' =>
      (∃ err, takeP g great d = .error err ∧ e = .returned (.bool false) ∧ PE w w' rr eb err) ∨ (∃ n d', takeP g great d = .ok (n, d') ∧ e = .returned (.bool true) ∧ PS w w' bb rr hh ha lf eb d' hcs acs L ∧ Blk w' tb 55 [.int .u64 (n : Nat)] ∧ Upd [tb, bb] wr w') := by
  have O' := O
  obtain ⟨o0, o1, o2, o3, o4, o5⟩ := O'
  have h' := h
  obtain ⟨⟨v, h1, h2⟩, h3, h4, h5, h6, ⟨x, h7⟩, h8⟩ := h'
  refine (tape_take w v d g great tb 0 bb eb _ _ _ wr hd h2 h8 hT (by simp) h1 h7 (by omega) (by omega) (by omega) hg hgr).mono ?_
  rintro e w' (⟨err, e1, e2, rfl, e3, e4⟩ | ⟨n, d', e1, rfl, e3, v', e4, e5, e6⟩)
  · exact Or.inl ⟨err, e1, rfl, h.err O e2 e3 e4⟩
  · refine Or.inr ⟨n, d', e1, rfl, ⟨⟨v', e4, e5⟩, h3.upd e6 (by simp; omega), h4.upd e6 (by simp; omega), h5.upd e6 (by simp; omega), h6.upd e6 (by simp; omega), ⟨x, h7.upd e6 (by simp; omega)⟩, h8.and e6 (fun y hy => Or.inr (by simp at hy; omega))⟩, e3, e6⟩
end
end Go.Proofs.Ytdmdnijgjgjmkaa
