/- SX: what the names mean. -/
import Derived.Test.YtbkegflipglioaaGreatSX3
import Derived.Below
import Derived.Deep.MidRow
import Derived.OwnWalk
import Derived.Orders
namespace Go.SX
open Go.RowKit

theorem oks_len {m : Nat} {ν : Nat → Env} : ∀ {cs : List S} {vs : List Value}, oks m ν cs vs → vs.length = cs.length
  | [], vs, h => by simp only [S.oks] at h; simp [h]
  | c :: cs, vs, h => by
    simp only [S.oks] at h
    obtain ⟨v, r, rfl, _, h2⟩ := h
    simp [oks_len h2]
theorem oks_nil {m : Nat} {ν : Nat → Env} : oks m ν [] [] := by simp [S.oks]
theorem oks_cons {m : Nat} {ν : Nat → Env} {c : S} {cs : List S} {v : Value} {vs : List Value} (h : c.ok m ν v) (h2 : oks m ν cs vs) : oks m ν (c :: cs) (v :: vs) := by
  simp only [S.oks]; exact ⟨v, vs, rfl, h, h2⟩
theorem oks_cons_iff {m : Nat} {ν : Nat → Env} {c : S} {cs : List S} {v : Value} {vs : List Value} : oks m ν (c :: cs) (v :: vs) ↔ c.ok m ν v ∧ oks m ν cs vs := by
  constructor
  · intro h
    simp only [S.oks, List.cons.injEq] at h
    obtain ⟨v, r, ⟨rfl, rfl⟩, h1, h2⟩ := h
    exact ⟨h1, h2⟩
  · rintro ⟨h1, h2⟩; exact oks_cons h1 h2
theorem oks_one {m : Nat} {ν : Nat → Env} {c : S} {v : Value} (h : c.ok m ν v) : oks m ν [c] [v] := oks_cons h oks_nil
theorem oks_append {m : Nat} {ν : Nat → Env} : ∀ {cs ds : List S} {vs us : List Value}, oks m ν cs vs → oks m ν ds us → oks m ν (cs ++ ds) (vs ++ us)
  | [], ds, vs, us, h, h2 => by simp only [S.oks] at h; subst h; simpa using h2
  | c :: cs, ds, vs, us, h, h2 => by
    simp only [S.oks] at h
    obtain ⟨v, r, rfl, h1, h3⟩ := h
    exact oks_cons h1 (oks_append h3 h2)
theorem oks_drop {m : Nat} {ν : Nat → Env} : ∀ {cs : List S} {vs : List Value} (n : Nat), oks m ν cs vs → oks m ν (cs.drop n) (vs.drop n)
  | [], vs, n, h => by simp only [S.oks] at h; subst h; simpa using oks_nil
  | c :: cs, vs, 0, h => by simpa using h
  | c :: cs, vs, n + 1, h => by
    simp only [S.oks] at h
    obtain ⟨v, r, rfl, h1, h3⟩ := h
    simpa using oks_drop n h3
theorem oks_take {m : Nat} {ν : Nat → Env} : ∀ {cs : List S} {vs : List Value} (n : Nat), oks m ν cs vs → oks m ν (cs.take n) (vs.take n)
  | [], vs, n, h => by simp only [S.oks] at h; subst h; simpa using oks_nil
  | c :: cs, vs, 0, h => by simpa using oks_nil
  | c :: cs, vs, n + 1, h => by
    simp only [S.oks] at h
    obtain ⟨v, r, rfl, h1, h3⟩ := h
    simpa using oks_cons h1 (oks_take n h3)
theorem oks_get {m : Nat} {ν : Nat → Env} : ∀ {cs : List S} {vs : List Value} (n : Nat) {s : S}, oks m ν cs vs → cs[n]? = some s → ∃ v, vs[n]? = some v ∧ s.ok m ν v
  | [], vs, n, s, h, hs => by simp at hs
  | c :: cs, vs, 0, s, h, hs => by
    simp only [S.oks] at h
    obtain ⟨v, r, rfl, h1, h3⟩ := h
    simp at hs; subst hs
    exact ⟨v, rfl, h1⟩
  | c :: cs, vs, n + 1, s, h, hs => by
    simp only [S.oks] at h
    obtain ⟨v, r, rfl, h1, h3⟩ := h
    simpa using oks_get n h3 (by simpa using hs)

mutual
theorem S.ok_mono {m m' : Nat} {ν ν' : Nat → Env} (he : ∀ i, i < m → ν' i = ν i) (hm : m ≤ m') : ∀ (s : S) (v : Value), s.ok m ν v → s.ok m' ν' v
  | .il k n, v, h => by simpa only [S.ok] using h
  | .iv k n, v, h => by simpa only [S.ok] using h
  | .bl x, v, h => by simpa only [S.ok] using h
  | .bv x, v, h => by simpa only [S.ok] using h
  | .tl x, v, h => by simpa only [S.ok] using h
  | .tv x, v, h => by simpa only [S.ok] using h
  | .ptr id off, v, h => by
    simp only [S.ok] at h ⊢
    rw [he id h.1]; exact ⟨Nat.lt_of_lt_of_le h.1 hm, h.2⟩
  | .rp a off, v, h => by simpa only [S.ok] using h
  | .nil, v, h => by simpa only [S.ok] using h
  | .sli id off len c z, v, h => by
    simp only [S.ok] at h ⊢
    rw [he id h.1]; exact ⟨Nat.lt_of_lt_of_le h.1 hm, h.2⟩
  | .raw u, v, h => by simpa only [S.ok] using h
  | .fn f cs, v, h => by
    simp only [S.ok] at h ⊢
    obtain ⟨vs, h1, h2⟩ := h
    exact ⟨vs, h1, S.oks_mono he hm cs vs h2⟩
  | .bm f cs, v, h => by
    simp only [S.ok] at h ⊢
    obtain ⟨vs, h1, h2⟩ := h
    exact ⟨vs, h1, S.oks_mono he hm cs vs h2⟩
  | .ifc t x, v, h => by
    simp only [S.ok] at h ⊢
    obtain ⟨u, h1, h2⟩ := h
    exact ⟨u, h1, S.ok_mono he hm x u h2⟩
  | .mp id, v, h => by
    simp only [S.ok] at h ⊢
    rw [he id h.1]; exact ⟨Nat.lt_of_lt_of_le h.1 hm, h.2⟩
  | .agg cs, v, h => by
    simp only [S.ok] at h ⊢
    obtain ⟨vs, h1, h2⟩ := h
    exact ⟨vs, h1, S.oks_mono he hm cs vs h2⟩
  | .tup cs, v, h => by
    simp only [S.ok] at h ⊢
    obtain ⟨vs, h1, h2⟩ := h
    exact ⟨vs, h1, S.oks_mono he hm cs vs h2⟩
  | .un, v, h => by simpa only [S.ok] using h
  | .junk, v, h => by simp only [S.ok]
theorem S.oks_mono {m m' : Nat} {ν ν' : Nat → Env} (he : ∀ i, i < m → ν' i = ν i) (hm : m ≤ m') : ∀ (cs : List S) (vs : List Value), S.oks m ν cs vs → S.oks m' ν' cs vs
  | [], vs, h => by simpa only [S.oks] using h
  | c :: cs, vs, h => by
    simp only [S.oks] at h ⊢
    obtain ⟨v, r, h1, h2, h3⟩ := h
    exact ⟨v, r, h1, S.ok_mono he hm c v h2, S.oks_mono he hm cs r h3⟩
end

/-- Of the blocks that w had, none but those of S has turned; the streams are as they were. -/
structure Upd (S : List Nat) (w w' : World) : Prop where
  os : w'.os = w.os
  tape : w'.tape = w.tape
  output : w'.output = w.output
  size : w.heap.size ≤ w'.heap.size
  block : ∀ k, k < w.heap.size → k ∉ S → w'.heap[k]? = w.heap[k]?
theorem Upd.refl (S : List Nat) (w : World) : Upd S w w := ⟨rfl, rfl, rfl, Nat.le_refl _, fun _ _ _ => rfl⟩
theorem Upd.trans {S : List Nat} {a b c : World} (h : Upd S a b) (k : Upd S b c) : Upd S a c :=
  ⟨k.os.trans h.os, k.tape.trans h.tape, k.output.trans h.output, Nat.le_trans h.size k.size,
   fun i hi hs => (k.block i (Nat.lt_of_lt_of_le hi h.size) hs).trans (h.block i hi hs)⟩
theorem Upd.and {S S' : List Nat} {a b c : World} (h : Upd S a b) (k : Upd S' b c) (hs : ∀ x, x ∈ S' → x ∈ S ∨ a.heap.size ≤ x) : Upd S a c :=
  ⟨k.os.trans h.os, k.tape.trans h.tape, k.output.trans h.output, Nat.le_trans h.size k.size,
   fun i hi hn => (k.block i (Nat.lt_of_lt_of_le hi h.size) (fun hm => by rcases hs i hm with h' | h'; exact hn h'; omega)).trans (h.block i hi hn)⟩
theorem Upd.mono {S S' : List Nat} {a b : World} (h : Upd S a b) (hs : ∀ x, x ∈ S → x ∈ S' ∨ a.heap.size ≤ x) : Upd S' a b :=
  ⟨h.os, h.tape, h.output, h.size, fun i hi hn => h.block i hi (fun hm => by rcases hs i hm with h' | h'; exact hn h'; omega)⟩
theorem Upd.drew {S : List Nat} {a w : World} (h : Upd S a w) : Upd S a w.drew := ⟨h.os, h.tape, h.output, h.size, h.block⟩
theorem Upd.alloc {S : List Nat} {a w : World} (h : Upd S a w) (o : Obj) : Upd S a (w.alloc o) :=
  h.and (S' := []) ⟨rfl, rfl, rfl, by simp, fun k hk _ => Below.heap_alloc _ _ _ hk⟩ (by simp)
theorem Upd.setCell {S : List Nat} {a w : World} (h : Upd S a w) (p : Addr) (u : Value) (hp : p.block ∈ S ∨ a.heap.size ≤ p.block) : Upd S a (w.setCell p u) :=
  h.and (S' := [p.block]) ⟨rfl, rfl, rfl, by simp [World.setCell], fun k _ hn => Below.heap_setCell _ _ _ _ (by simpa using hn)⟩ (by simpa using hp)

def Ob.own : Ob → Bool
  | .cells .. => true
  | .row .. => true
  | .mapo .. => true
  | _ => false
def ents : List Value → List Value → Nat → List MapEntry
  | k :: ks, v :: vs, n => ⟨k, v, n⟩ :: ents ks vs (n + 1)
  | _, _, _ => []
/-- What o says of the block behind e. -/
def Ob.holds (m : Nat) (ν : Nat → Env) (e : Env) (w : World) : Ob → Prop
  | .cells T cs => e.base = 0 ∧ ∃ vs, oks m ν cs vs ∧ w.heap[e.blk]? = some (.cells vs.toArray T (0, 0))
  | .row T sz n cs => e.base = 0 ∧ ∃ vs cur, oks m ν cs vs ∧ w.heap[e.blk]? = some (.cells cur T (0, 0)) ∧ n.val ≤ e.cap ∧ e.cap ≤ maxLen ∧ cur.size = e.cap * sz ∧ cur.toList.take (n.val * sz) = vs ∧ vs.length = n.val * sz
  | .win cs => ∃ vs, oks m ν cs vs ∧ ∀ j u, vs[j]? = some u → w.cell? ⟨e.blk, e.base + j, none⟩ = some u
  | .mapo ks vs => e.base = 0 ∧ ∃ a b, oks m ν ks a ∧ oks m ν vs b ∧ a.length = b.length ∧ w.heap[e.blk]? = some (.map (ents a b 0).toArray a.length)
  | .orc _ => True
  | .dead => True
structure HOk (W : Addr → Nat → Nat → Option (List S)) (w0 : World) (S0 : List Nat) (ν : Nat → Env) (h : List Ob) (w : World) : Prop where
  upd : Upd S0 w0 w
  ob : ∀ i (o : Ob), h[i]? = some o → o.holds h.length ν (ν i) w
  own : ∀ i (o : Ob), h[i]? = some o → o.own = true → (ν i).blk ∈ S0 ∨ w0.heap.size ≤ (ν i).blk
  apart : ∀ i j (o o' : Ob), i ≠ j → h[i]? = some o → h[j]? = some o' → o.own = true → o'.own = true → (ν i).blk ≠ (ν j).blk
  win : ∀ i cs, h[i]? = some (.win cs) → (ν i).blk < w0.heap.size ∧ (ν i).blk ∉ S0
  far : ∀ a o n cs, W a o n = some cs → a.block < w0.heap.size ∧ a.block ∉ S0 ∧ ∃ vs, (∀ m ν, oks m ν cs vs) ∧ vs.length = n ∧ ∀ j u, vs[j]? = some u → w0.cell? ⟨a.block, a.off + o + j, none⟩ = some u

theorem Ob.holds_mono {m m' : Nat} {ν ν' : Nat → Env} (he : ∀ i, i < m → ν' i = ν i) (hm : m ≤ m') {e : Env} {w : World} {o : Ob} (h : o.holds m ν e w) : o.holds m' ν' e w := by
  cases o with
  | cells T cs => obtain ⟨h0, vs, h1, h2⟩ := h; exact ⟨h0, vs, S.oks_mono he hm _ _ h1, h2⟩
  | row T sz n cs => obtain ⟨h0, vs, cur, h1, h2⟩ := h; exact ⟨h0, vs, cur, S.oks_mono he hm _ _ h1, h2⟩
  | win cs => obtain ⟨vs, h1, h2⟩ := h; exact ⟨vs, S.oks_mono he hm _ _ h1, h2⟩
  | mapo ks vs => obtain ⟨h0, a, b, h1, h2, h3⟩ := h; exact ⟨h0, a, b, S.oks_mono he hm _ _ h1, S.oks_mono he hm _ _ h2, h3⟩
  | orc l => trivial
  | dead => trivial
theorem lt_of_blk {w : World} {b : Nat} {o : Obj} (h : w.heap[b]? = some o) : b < w.heap.size := (Array.getElem?_eq_some_iff.1 h).1
theorem Ob.holds_lt {m : Nat} {ν : Nat → Env} {e : Env} {w : World} {o : Ob} (h : o.holds m ν e w) (ho : o.own = true) : e.blk < w.heap.size := by
  cases o with
  | cells T cs => obtain ⟨h0, vs, h1, h2⟩ := h; exact lt_of_blk h2
  | row T sz n cs => obtain ⟨h0, vs, cur, h1, h2, _⟩ := h; exact lt_of_blk h2
  | win cs => cases ho
  | mapo ks vs => obtain ⟨h0, a, b, h1, h2, h3, h4⟩ := h; exact lt_of_blk h4
  | orc l => cases ho
  | dead => cases ho
theorem Ob.holds_heap {m : Nat} {ν : Nat → Env} {e : Env} {w w' : World} {o : Ob} (h : o.holds m ν e w) (hw : w'.heap[e.blk]? = w.heap[e.blk]?) : o.holds m ν e w' := by
  cases o with
  | cells T cs => obtain ⟨h0, vs, h1, h2⟩ := h; exact ⟨h0, vs, h1, hw.trans h2⟩
  | row T sz n cs => obtain ⟨h0, vs, cur, h1, h2, h3⟩ := h; exact ⟨h0, vs, cur, h1, hw.trans h2, h3⟩
  | win cs => obtain ⟨vs, h1, h2⟩ := h; exact ⟨vs, h1, fun j u hu => by rw [World.cell?_of_block (w := w) hw]; exact h2 j u hu⟩
  | mapo ks vs => obtain ⟨h0, a, b, h1, h2, h3, h4⟩ := h; exact ⟨h0, a, b, h1, h2, h3, hw.trans h4⟩
  | orc l => trivial
  | dead => trivial

theorem HOk.size {W : Addr → Nat → Nat → Option (List S)} {w0 w : World} {S0 : List Nat} {ν : Nat → Env} {h : List Ob} (H : HOk W w0 S0 ν h w) : w0.heap.size ≤ w.heap.size := H.upd.size
/-- A world in which some blocks that none of h owns have turned. -/
theorem HOk.step {W : Addr → Nat → Nat → Option (List S)} {w0 w w' : World} {S0 S1 : List Nat} {ν : Nat → Env} {h : List Ob} (H : HOk W w0 S0 ν h w) (hu : Upd S1 w w') (h1 : ∀ x ∈ S1, (x ∈ S0 ∨ w0.heap.size ≤ x) ∧ ∀ i (o : Ob), h[i]? = some o → o.own = true → (ν i).blk ≠ x) : HOk W w0 S0 ν h w' := by
  refine ⟨H.upd.and hu fun x hx => (h1 x hx).1, fun i o hi => ?_, H.own, H.apart, H.win, H.far⟩
  have ho := H.ob i o hi
  cases hown : o.own with
  | true => exact Ob.holds_heap ho (hu.block _ (Ob.holds_lt ho hown) fun hx => (h1 _ hx).2 i o hi hown rfl)
  | false =>
    cases o with
    | cells T cs => cases hown
    | row T sz n cs => cases hown
    | mapo ks vs => cases hown
    | win cs =>
      have hw := H.win i cs hi
      refine Ob.holds_heap ho (hu.block _ (Nat.lt_of_lt_of_le hw.1 H.size) fun hx => ?_)
      rcases (h1 _ hx).1 with h' | h'
      · exact hw.2 h'
      · omega
    | orc l => trivial
    | dead => trivial
theorem HOk.drew {W : Addr → Nat → Nat → Option (List S)} {w0 w : World} {S0 : List Nat} {ν : Nat → Env} {h : List Ob} (H : HOk W w0 S0 ν h w) : HOk W w0 S0 ν h w.drew :=
  H.step (S1 := []) (Upd.refl _ _).drew (by simp)

def updE (ν : Nat → Env) (i : Nat) (e : Env) : Nat → Env := fun j => if j = i then e else ν j
theorem updE_ne {ν : Nat → Env} {i j : Nat} {e : Env} (h : j ≠ i) : updE ν i e j = ν j := if_neg h
theorem updE_eq {ν : Nat → Env} {i : Nat} {e : Env} : updE ν i e i = e := if_pos rfl
theorem updE_lt {ν : Nat → Env} {n : Nat} {e : Env} : ∀ i, i < n → updE ν n e i = ν i := fun i hi => updE_ne (by omega)
/-- A new object in a block that no other owns. -/
theorem HOk.push {W : Addr → Nat → Nat → Option (List S)} {w0 w : World} {S0 : List Nat} {ν : Nat → Env} {h : List Ob} (H : HOk W w0 S0 ν h w) (o : Ob) (e : Env) (hown : o.own = true) (hh : o.holds h.length ν e w)
    (h1 : e.blk ∈ S0 ∨ w0.heap.size ≤ e.blk) (h2 : ∀ i (o : Ob), h[i]? = some o → o.own = true → (ν i).blk ≠ e.blk) : HOk W w0 S0 (updE ν h.length e) (h ++ [o]) w := by
  have key : ∀ i o', (h ++ [o])[i]? = some o' → (i < h.length ∧ h[i]? = some o') ∨ (i = h.length ∧ o' = o) := by
    intro i o' hi
    rcases Nat.lt_or_ge i h.length with hl | hl
    · rw [List.getElem?_append_left hl] at hi; exact Or.inl ⟨hl, hi⟩
    · rw [List.getElem?_append_right hl] at hi
      have : i - h.length = 0 := by
        rcases Nat.eq_zero_or_pos (i - h.length) with h0 | h0
        · exact h0
        · rw [List.getElem?_eq_none (by simp; omega)] at hi; cases hi
      rw [this] at hi
      simp at hi
      exact Or.inr ⟨by omega, hi.symm⟩
  have hm : h.length ≤ (h ++ [o]).length := by simp
  refine ⟨H.upd, fun i o' hi => ?_, fun i o' hi ho => ?_, fun i j o1 o2 hij hi hj ho1 ho2 => ?_, fun i cs hi => ?_, H.far⟩
  · rcases key i o' hi with ⟨hl, hi'⟩ | ⟨rfl, rfl⟩
    · rw [updE_lt i hl]; exact Ob.holds_mono updE_lt hm (H.ob i o' hi')
    · rw [updE_eq]; exact Ob.holds_mono updE_lt hm hh
  · rcases key i o' hi with ⟨hl, hi'⟩ | ⟨rfl, rfl⟩
    · rw [updE_lt i hl]; exact H.own i o' hi' ho
    · rw [updE_eq]; exact h1
  · rcases key i o1 hi with ⟨hl, hi'⟩ | ⟨rfl, rfl⟩
    · rcases key j o2 hj with ⟨hl2, hj'⟩ | ⟨rfl, rfl⟩
      · rw [updE_lt i hl, updE_lt j hl2]; exact H.apart i j o1 o2 hij hi' hj' ho1 ho2
      · rw [updE_lt i hl, updE_eq]; exact h2 i o1 hi' ho1
    · rcases key j o2 hj with ⟨hl2, hj'⟩ | ⟨rfl, rfl⟩
      · rw [updE_lt j hl2, updE_eq]; exact (h2 j o2 hj' ho2).symm
      · exact absurd rfl hij
  · rcases key i _ hi with ⟨hl, hi'⟩ | ⟨rfl, rfl⟩
    · rw [updE_lt i hl]; exact H.win i cs hi'
    · cases hown
theorem HOk.alloc {W : Addr → Nat → Nat → Option (List S)} {w0 w : World} {S0 : List Nat} {ν : Nat → Env} {h : List Ob} (H : HOk W w0 S0 ν h w) {cs : List S} {vs : List Value} (T : TypeId) (hc : oks h.length ν cs vs) :
    HOk W w0 S0 (updE ν h.length ⟨w.heap.size, 0, 0⟩) (h ++ [.cells T cs]) (w.alloc (.cells vs.toArray T (0, 0))) := by
  refine (H.step (S1 := []) ((Upd.refl _ _).alloc _) (by simp)).push (.cells T cs) ⟨w.heap.size, 0, 0⟩ rfl ⟨rfl, vs, hc, ?_⟩ (Or.inr H.size) fun i o hi ho => ?_
  · show (w.heap.push _)[w.heap.size]? = _
    simp
  · exact Nat.ne_of_lt (Ob.holds_lt (H.ob i o hi) ho)
theorem HOk.allocRow {W : Addr → Nat → Nat → Option (List S)} {w0 w : World} {S0 : List Nat} {ν : Nat → Env} {h : List Ob} (H : HOk W w0 S0 ν h w) {cs : List S} {vs : List Value} (T : TypeId) (sz n : Nat) (hc : oks h.length ν cs vs) (hl : vs.length = n * sz) (hn : n ≤ maxLen) :
    HOk W w0 S0 (updE ν h.length ⟨w.heap.size, 0, n⟩) (h ++ [.row T sz (.l n) cs]) (w.alloc (.cells vs.toArray T (0, 0))) := by
  refine (H.step (S1 := []) ((Upd.refl _ _).alloc _) (by simp)).push (.row T sz (.l n) cs) ⟨w.heap.size, 0, n⟩ rfl ⟨rfl, vs, vs.toArray, hc, ?_, Nat.le_refl _, hn, by simpa using hl, ?_, hl⟩ (Or.inr H.size) fun i o hi ho => ?_
  · show (w.heap.push _)[w.heap.size]? = _
    simp
  · simp only [NN.val]; rw [← hl]; simp
  · exact Nat.ne_of_lt (Ob.holds_lt (H.ob i o hi) ho)
/-- Another object under an old name: what was there is gone. -/
theorem HOk.put {W : Addr → Nat → Nat → Option (List S)} {w0 w w' : World} {S0 : List Nat} {ν : Nat → Env} {h : List Ob} (H : HOk W w0 S0 ν h w) {id : Nat} {o0 : Ob} (o : Ob) (hid : h[id]? = some o0) (hown0 : o0.own = true) (hown : o.own = true)
    (hu : Upd [(ν id).blk] w w') (hh : o.holds h.length ν (ν id) w') : HOk W w0 S0 ν (h.set id o) w' := by
  have hlt : id < h.length := (List.getElem?_eq_some_iff.1 hid).1
  have key : ∀ i o', (h.set id o)[i]? = some o' → (i ≠ id ∧ h[i]? = some o') ∨ (i = id ∧ o' = o) := by
    intro i o' hi
    by_cases hii : i = id
    · subst hii; rw [List.getElem?_set_self hlt] at hi; exact Or.inr ⟨rfl, (Option.some.inj hi).symm⟩
    · rw [List.getElem?_set_ne (Ne.symm hii)] at hi; exact Or.inl ⟨hii, hi⟩
  refine ⟨H.upd.and hu fun x hx => ?_, fun i o' hi => ?_, fun i o' hi ho => ?_, fun i j o1 o2 hij hi hj ho1 ho2 => ?_, fun i cs hi => ?_, H.far⟩
  · rw [List.mem_singleton.1 hx]; exact H.own id o0 hid hown0
  · rw [List.length_set]
    rcases key i o' hi with ⟨hii, hi'⟩ | ⟨rfl, rfl⟩
    · have ho := H.ob i o' hi'
      cases hw : o'.own with
      | true => exact Ob.holds_heap ho (hu.block _ (Ob.holds_lt ho hw) (by simpa using H.apart i id o' o0 hii hi' hid hw hown0))
      | false =>
        cases o' with
        | cells T cs => cases hw
        | row T sz n cs => cases hw
        | mapo ks vs => cases hw
        | win cs =>
          have hw := H.win i cs hi'
          refine Ob.holds_heap ho (hu.block _ (Nat.lt_of_lt_of_le hw.1 H.size) ?_)
          simp only [List.mem_singleton]
          intro he
          rcases H.own id o0 hid hown0 with h' | h'
          · exact hw.2 (he ▸ h')
          · omega
        | orc l => trivial
        | dead => trivial
    · exact hh
  · rcases key i o' hi with ⟨hii, hi'⟩ | ⟨rfl, rfl⟩
    · exact H.own i o' hi' ho
    · exact H.own _ o0 hid hown0
  · rcases key i o1 hi with ⟨hii, hi'⟩ | ⟨rfl, rfl⟩
    · rcases key j o2 hj with ⟨hjj, hj'⟩ | ⟨rfl, rfl⟩
      · exact H.apart i j o1 o2 hij hi' hj' ho1 ho2
      · exact H.apart i _ o1 o0 hij hi' hid ho1 hown0
    · rcases key j o2 hj with ⟨hjj, hj'⟩ | ⟨rfl, rfl⟩
      · exact H.apart _ j o0 o2 hij hid hj' hown0 ho2
      · exact absurd rfl hij
  · rcases key i _ hi with ⟨hii, hi'⟩ | ⟨rfl, rfl⟩
    · exact H.win i cs hi'
    · cases hown
theorem HOk.kill {W : Addr → Nat → Nat → Option (List S)} {w0 w : World} {S0 : List Nat} {ν : Nat → Env} {h : List Ob} (H : HOk W w0 S0 ν h w) (id : Nat) : HOk W w0 S0 ν (h.set id .dead) w := by
  have key : ∀ i o', (h.set id .dead)[i]? = some o' → (i ≠ id ∧ h[i]? = some o') ∨ o' = .dead := by
    intro i o' hi
    by_cases hii : i = id
    · subst hii
      rcases Nat.lt_or_ge i h.length with hl | hl
      · rw [List.getElem?_set_self hl] at hi; exact Or.inr (Option.some.inj hi).symm
      · rw [List.getElem?_eq_none (by simpa using hl)] at hi; cases hi
    · rw [List.getElem?_set_ne (Ne.symm hii)] at hi; exact Or.inl ⟨hii, hi⟩
  refine ⟨H.upd, fun i o' hi => ?_, fun i o' hi ho => ?_, fun i j o1 o2 hij hi hj ho1 ho2 => ?_, fun i cs hi => ?_, H.far⟩
  · rw [List.length_set]
    rcases key i o' hi with ⟨hii, hi'⟩ | rfl
    · exact H.ob i o' hi'
    · trivial
  · rcases key i o' hi with ⟨hii, hi'⟩ | rfl
    · exact H.own i o' hi' ho
    · cases ho
  · rcases key i o1 hi with ⟨hii, hi'⟩ | rfl
    · rcases key j o2 hj with ⟨hjj, hj'⟩ | rfl
      · exact H.apart i j o1 o2 hij hi' hj' ho1 ho2
      · cases ho2
    · cases ho1
  · rcases key i _ hi with ⟨hii, hi'⟩ | h0
    · exact H.win i cs hi'
    · cases h0
theorem HOk.orc {W : Addr → Nat → Nat → Option (List S)} {w0 w : World} {S0 : List Nat} {ν : Nat → Env} {h : List Ob} (H : HOk W w0 S0 ν h w) {id : Nat} {l : List OI} (hid : h[id]? = some (.orc l)) (r : List OI) : HOk W w0 S0 ν (h.set id (.orc r)) w := by
  have hlt : id < h.length := (List.getElem?_eq_some_iff.1 hid).1
  have key : ∀ i o', (h.set id (.orc r))[i]? = some o' → (i ≠ id ∧ h[i]? = some o') ∨ (i = id ∧ o' = .orc r) := by
    intro i o' hi
    by_cases hii : i = id
    · subst hii; rw [List.getElem?_set_self hlt] at hi; exact Or.inr ⟨rfl, (Option.some.inj hi).symm⟩
    · rw [List.getElem?_set_ne (Ne.symm hii)] at hi; exact Or.inl ⟨hii, hi⟩
  refine ⟨H.upd, fun i o' hi => ?_, fun i o' hi ho => ?_, fun i j o1 o2 hij hi hj ho1 ho2 => ?_, fun i cs hi => ?_, H.far⟩
  · rw [List.length_set]
    rcases key i o' hi with ⟨hii, hi'⟩ | ⟨rfl, rfl⟩
    · exact H.ob i o' hi'
    · trivial
  · rcases key i o' hi with ⟨hii, hi'⟩ | ⟨rfl, rfl⟩
    · exact H.own i o' hi' ho
    · cases ho
  · rcases key i o1 hi with ⟨hii, hi'⟩ | ⟨rfl, rfl⟩
    · rcases key j o2 hj with ⟨hjj, hj'⟩ | ⟨rfl, rfl⟩
      · exact H.apart i j o1 o2 hij hi' hj' ho1 ho2
      · cases ho2
    · cases ho1
  · rcases key i _ hi with ⟨hii, hi'⟩ | ⟨_, h0⟩
    · exact H.win i cs hi'
    · cases h0
end Go.SX
