/- SX: SX4 to SX6. -/
import Derived.Test.YtbkegflipglioaaGreatSX3
import Derived.Below
import Derived.Deep.MidRow
import Derived.OwnWalk
import Derived.Orders
import Derived.Laws.StructEq
namespace Go.SX
open Go.RowKit

theorem oks_len {m : Nat} {ν : Nat → Env} : ∀ {cs : List S} {vs : List Value}, oks m ν cs vs → vs.length = cs.length
  | [], vs, h => by simp only [S.oks] at h; simp [h]
  | c :: cs, vs, h => by
    simp only [S.oks] at h
    obtain ⟨v, r, rfl, _, h2⟩ := h
    simp [oks_len h2]
theorem oks_nil {m : Nat} {ν : Nat → Env} : oks m ν [] [] := by simp [S.oks]
theorem oks_cons {m : Nat} {ν : Nat → Env} {c : S} {cs : List S} {v : Value} {vs : List Value} (h : c.ok m ν v) (h2 : oks m ν cs vs) : oks m ν (c :: cs) (v :: vs) := by
  simp only [S.oks]; exact ⟨v, vs, rfl, h, h2⟩
theorem oks_cons_iff {m : Nat} {ν : Nat → Env} {c : S} {cs : List S} {v : Value} {vs : List Value} : oks m ν (c :: cs) (v :: vs) ↔ c.ok m ν v ∧ oks m ν cs vs := by
  constructor
  · intro h
    simp only [S.oks, List.cons.injEq] at h
    obtain ⟨v, r, ⟨rfl, rfl⟩, h1, h2⟩ := h
    exact ⟨h1, h2⟩
  · rintro ⟨h1, h2⟩; exact oks_cons h1 h2
theorem oks_one {m : Nat} {ν : Nat → Env} {c : S} {v : Value} (h : c.ok m ν v) : oks m ν [c] [v] := oks_cons h oks_nil
theorem oks_append {m : Nat} {ν : Nat → Env} : ∀ {cs ds : List S} {vs us : List Value}, oks m ν cs vs → oks m ν ds us → oks m ν (cs ++ ds) (vs ++ us)
  | [], ds, vs, us, h, h2 => by simp only [S.oks] at h; subst h; simpa using h2
  | c :: cs, ds, vs, us, h, h2 => by
    simp only [S.oks] at h
    obtain ⟨v, r, rfl, h1, h3⟩ := h
    exact oks_cons h1 (oks_append h3 h2)
theorem oks_drop {m : Nat} {ν : Nat → Env} : ∀ {cs : List S} {vs : List Value} (n : Nat), oks m ν cs vs → oks m ν (cs.drop n) (vs.drop n)
  | [], vs, n, h => by simp only [S.oks] at h; subst h; simpa using oks_nil
  | c :: cs, vs, 0, h => by simpa using h
  | c :: cs, vs, n + 1, h => by
    simp only [S.oks] at h
    obtain ⟨v, r, rfl, h1, h3⟩ := h
    simpa using oks_drop n h3
theorem oks_take {m : Nat} {ν : Nat → Env} : ∀ {cs : List S} {vs : List Value} (n : Nat), oks m ν cs vs → oks m ν (cs.take n) (vs.take n)
  | [], vs, n, h => by simp only [S.oks] at h; subst h; simpa using oks_nil
  | c :: cs, vs, 0, h => by simpa using oks_nil
  | c :: cs, vs, n + 1, h => by
    simp only [S.oks] at h
    obtain ⟨v, r, rfl, h1, h3⟩ := h
    simpa using oks_cons h1 (oks_take n h3)
theorem oks_get {m : Nat} {ν : Nat → Env} : ∀ {cs : List S} {vs : List Value} (n : Nat) {s : S}, oks m ν cs vs → cs[n]? = some s → ∃ v, vs[n]? = some v ∧ s.ok m ν v
  | [], vs, n, s, h, hs => by simp at hs
  | c :: cs, vs, 0, s, h, hs => by
    simp only [S.oks] at h
    obtain ⟨v, r, rfl, h1, h3⟩ := h
    simp at hs; subst hs
    exact ⟨v, rfl, h1⟩
  | c :: cs, vs, n + 1, s, h, hs => by
    simp only [S.oks] at h
    obtain ⟨v, r, rfl, h1, h3⟩ := h
    simpa using oks_get n h3 (by simpa using hs)

mutual
theorem S.ok_mono {m m' : Nat} {ν ν' : Nat → Env} (he : ∀ i, i < m → ν' i = ν i) (hm : m ≤ m') : ∀ (s : S) (v : Value), s.ok m ν v → s.ok m' ν' v
  | .il k n, v, h => by simpa only [S.ok] using h
  | .iv k n, v, h => by simpa only [S.ok] using h
  | .bl x, v, h => by simpa only [S.ok] using h
  | .bv x, v, h => by simpa only [S.ok] using h
  | .tl x, v, h => by simpa only [S.ok] using h
  | .tv x, v, h => by simpa only [S.ok] using h
  | .ptr id off, v, h => by
    simp only [S.ok] at h ⊢
    rw [he id h.1]; exact ⟨Nat.lt_of_lt_of_le h.1 hm, h.2⟩
  | .rp a off, v, h => by simpa only [S.ok] using h
  | .nil, v, h => by simpa only [S.ok] using h
  | .sli id off len c z, v, h => by
    simp only [S.ok] at h ⊢
    rw [he id h.1]; exact ⟨Nat.lt_of_lt_of_le h.1 hm, h.2⟩
  | .raw u, v, h => by simpa only [S.ok] using h
  | .fn f cs, v, h => by
    simp only [S.ok] at h ⊢
    obtain ⟨vs, h1, h2⟩ := h
    exact ⟨vs, h1, S.oks_mono he hm cs vs h2⟩
  | .bm f cs, v, h => by
    simp only [S.ok] at h ⊢
    obtain ⟨vs, h1, h2⟩ := h
    exact ⟨vs, h1, S.oks_mono he hm cs vs h2⟩
  | .ifc t x, v, h => by
    simp only [S.ok] at h ⊢
    obtain ⟨u, h1, h2⟩ := h
    exact ⟨u, h1, S.ok_mono he hm x u h2⟩
  | .zsl, v, h => by simpa only [S.ok] using h
  | .tsl id n top, v, h => by
    simp only [S.ok] at h ⊢
    rw [he id h.1]; exact ⟨Nat.lt_of_lt_of_le h.1 hm, h.2⟩
  | .nsl id len p z, v, h => by
    simp only [S.ok] at h ⊢
    rw [he id h.1]; exact ⟨Nat.lt_of_lt_of_le h.1 hm, h.2⟩
  | .pel id i sz off, v, h => by
    simp only [S.ok] at h ⊢
    rw [he id h.1]; exact ⟨Nat.lt_of_lt_of_le h.1 hm, h.2⟩
  | .mp id, v, h => by
    simp only [S.ok] at h ⊢
    rw [he id h.1]; exact ⟨Nat.lt_of_lt_of_le h.1 hm, h.2⟩
  | .agg cs, v, h => by
    simp only [S.ok] at h ⊢
    obtain ⟨vs, h1, h2⟩ := h
    exact ⟨vs, h1, S.oks_mono he hm cs vs h2⟩
  | .tup cs, v, h => by
    simp only [S.ok] at h ⊢
    obtain ⟨vs, h1, h2⟩ := h
    exact ⟨vs, h1, S.oks_mono he hm cs vs h2⟩
  | .un, v, h => by simpa only [S.ok] using h
  | .junk, v, h => by simp only [S.ok]
theorem S.oks_mono {m m' : Nat} {ν ν' : Nat → Env} (he : ∀ i, i < m → ν' i = ν i) (hm : m ≤ m') : ∀ (cs : List S) (vs : List Value), S.oks m ν cs vs → S.oks m' ν' cs vs
  | [], vs, h => by simpa only [S.oks] using h
  | c :: cs, vs, h => by
    simp only [S.oks] at h ⊢
    obtain ⟨v, r, h1, h2, h3⟩ := h
    exact ⟨v, r, h1, S.ok_mono he hm c v h2, S.oks_mono he hm cs r h3⟩
end

structure Upd (S : List Nat) (w w' : World) : Prop where
  os : w'.os = w.os
  tape : w'.tape = w.tape
  output : w'.output = w.output
  size : w.heap.size ≤ w'.heap.size
  block : ∀ k, k < w.heap.size → k ∉ S → w'.heap[k]? = w.heap[k]?
theorem Upd.refl (S : List Nat) (w : World) : Upd S w w := ⟨rfl, rfl, rfl, Nat.le_refl _, fun _ _ _ => rfl⟩
theorem Upd.trans {S : List Nat} {a b c : World} (h : Upd S a b) (k : Upd S b c) : Upd S a c :=
  ⟨k.os.trans h.os, k.tape.trans h.tape, k.output.trans h.output, Nat.le_trans h.size k.size,
   fun i hi hs => (k.block i (Nat.lt_of_lt_of_le hi h.size) hs).trans (h.block i hi hs)⟩
theorem Upd.and {S S' : List Nat} {a b c : World} (h : Upd S a b) (k : Upd S' b c) (hs : ∀ x, x ∈ S' → x ∈ S ∨ a.heap.size ≤ x) : Upd S a c :=
  ⟨k.os.trans h.os, k.tape.trans h.tape, k.output.trans h.output, Nat.le_trans h.size k.size,
   fun i hi hn => (k.block i (Nat.lt_of_lt_of_le hi h.size) (fun hm => by rcases hs i hm with h' | h'; exact hn h'; omega)).trans (h.block i hi hn)⟩
theorem Upd.mono {S S' : List Nat} {a b : World} (h : Upd S a b) (hs : ∀ x, x ∈ S → x ∈ S' ∨ a.heap.size ≤ x) : Upd S' a b :=
  ⟨h.os, h.tape, h.output, h.size, fun i hi hn => h.block i hi (fun hm => by rcases hs i hm with h' | h'; exact hn h'; omega)⟩
theorem Upd.drew {S : List Nat} {a w : World} (h : Upd S a w) : Upd S a w.drew := ⟨h.os, h.tape, h.output, h.size, h.block⟩
theorem Upd.alloc {S : List Nat} {a w : World} (h : Upd S a w) (o : Obj) : Upd S a (w.alloc o) :=
  h.and (S' := []) ⟨rfl, rfl, rfl, by simp, fun k hk _ => Below.heap_alloc _ _ _ hk⟩ (by simp)
theorem Upd.setCell {S : List Nat} {a w : World} (h : Upd S a w) (p : Addr) (u : Value) (hp : p.block ∈ S ∨ a.heap.size ≤ p.block) : Upd S a (w.setCell p u) :=
  h.and (S' := [p.block]) ⟨rfl, rfl, rfl, by simp [World.setCell], fun k _ hn => Below.heap_setCell _ _ _ _ (by simpa using hn)⟩ (by simpa using hp)

def Ob.own : Ob → Bool
  | .cells .. => true
  | .row .. => true
  | .nrow _ _ xs => (match xs with | [] => false | _ :: _ => true)
  | .rowT .. => true
  | .opt x _ _ => x
  | .mapo .. => true
  | _ => false
def Ob.isW : Ob → Bool
  | .win _ => true
  | .nwin _ xs => (match xs with | [] => false | _ :: _ => true)
  | _ => false
def ents : List Value → List Value → Nat → List MapEntry
  | k :: ks, v :: vs, n => ⟨k, v, n⟩ :: ents ks vs (n + 1)
  | _, _, _ => []
def Ob.holds (m : Nat) (ν : Nat → Env) (e : Env) (w : World) : Ob → Prop
  | .cells T cs => e.base = 0 ∧ ∃ vs, oks m ν cs vs ∧ w.heap[e.blk]? = some (.cells vs.toArray T (0, 0))
  | .row T sz n cs => e.base = 0 ∧ ∃ vs cur, oks m ν cs vs ∧ w.heap[e.blk]? = some (.cells cur T (0, 0)) ∧ n.val ≤ e.cap ∧ e.cap ≤ maxLen ∧ cur.size = e.cap * sz ∧ cur.toList.take (n.val * sz) = vs ∧ vs.length = n.val * sz ∧ e.len = n.val
  | .nrow T ks xs => e.len = xs.length ∧ (match xs with
    | [] => True
    | _ :: _ => e.base = 0 ∧ ∃ vs cur, oks m ν (rowC ks xs) vs ∧ w.heap[e.blk]? = some (.cells cur T (0, 0)) ∧ xs.length ≤ e.cap ∧ e.cap ≤ maxLen ∧ cur.size = e.cap * ks.length ∧ cur.toList.take (xs.length * ks.length) = vs ∧ vs.length = xs.length * ks.length)
  | .rowT T sz n cs => e.base = 0 ∧ ∃ vs cur, oks m ν cs vs ∧ w.heap[e.blk]? = some (.cells cur T (0, 0)) ∧ n ≤ e.cap ∧ e.cap ≤ maxLen ∧ cur.size = e.cap * sz ∧ cur.toList.take (n * sz) = vs.take (n * sz) ∧ n * sz ≤ vs.length ∧ e.len = n
  | .opt x T cs => x = true → e.base = 0 ∧ ∃ vs, oks m ν cs vs ∧ w.heap[e.blk]? = some (.cells vs.toArray T (0, 0))
  | .win cs => ∃ vs, oks m ν cs vs ∧ ∀ j u, vs[j]? = some u → w.cell? ⟨e.blk, e.base + j, none⟩ = some u
  | .nwin ks xs => e.len = xs.length ∧ (match xs with
    | [] => True
    | _ :: _ => ∃ vs, oks m ν (rowC ks xs) vs ∧ ∀ j u, vs[j]? = some u → w.cell? ⟨e.blk, e.base + j, none⟩ = some u)
  | .mapo ks vs => e.base = 0 ∧ ∃ a b, oks m ν ks a ∧ oks m ν vs b ∧ a.length = b.length ∧ w.heap[e.blk]? = some (.map (ents a b 0).toArray a.length)
  | .orc _ => True
  | .dead => True
structure HOk (W : Addr → Nat → Nat → Option (List S)) (w0 : World) (S0 : List Nat) (ν : Nat → Env) (h : List Ob) (w : World) : Prop where
  upd : Upd S0 w0 w
  ob : ∀ i (o : Ob), h[i]? = some o → o.holds h.length ν (ν i) w
  own : ∀ i (o : Ob), h[i]? = some o → o.own = true → (ν i).blk ∈ S0 ∨ w0.heap.size ≤ (ν i).blk
  apart : ∀ i j (o o' : Ob), i ≠ j → h[i]? = some o → h[j]? = some o' → o.own = true → o'.own = true → (ν i).blk ≠ (ν j).blk
  win : ∀ i (o : Ob), h[i]? = some o → o.isW = true → (ν i).blk < w0.heap.size ∧ (ν i).blk ∉ S0
  far : ∀ a o n cs, W a o n = some cs → a.block < w0.heap.size ∧ a.block ∉ S0 ∧ ∃ vs, (∀ m ν, oks m ν cs vs) ∧ vs.length = n ∧ ∀ j u, vs[j]? = some u → w0.cell? ⟨a.block, a.off + o + j, none⟩ = some u

theorem Ob.ownW {o : Ob} (h : o.own = true) : o.isW = false := by
  cases o with
  | win cs => cases h
  | nwin ks xs => cases h
  | _ => rfl
theorem Ob.holds_free {m : Nat} {ν : Nat → Env} {e : Env} {w w' : World} {o : Ob} (h : o.holds m ν e w) (ho : o.own = false) (hw : o.isW = false) : o.holds m ν e w' := by
  cases o with
  | cells T cs => cases ho
  | row T sz n cs => cases ho
  | nrow T ks xs =>
    cases xs with
    | nil => exact ⟨h.1, trivial⟩
    | cons x xs => cases ho
  | rowT T sz n cs => cases ho
  | opt x T cs => exact fun hx => by simp only [Ob.own] at ho; rw [ho] at hx; cases hx
  | win cs => cases hw
  | nwin ks xs =>
    cases xs with
    | nil => exact ⟨h.1, trivial⟩
    | cons x xs => cases hw
  | mapo ks vs => cases ho
  | orc l => trivial
  | dead => trivial
theorem Ob.holds_mono {m m' : Nat} {ν ν' : Nat → Env} (he : ∀ i, i < m → ν' i = ν i) (hm : m ≤ m') {e : Env} {w : World} {o : Ob} (h : o.holds m ν e w) : o.holds m' ν' e w := by
  cases o with
  | cells T cs => obtain ⟨h0, vs, h1, h2⟩ := h; exact ⟨h0, vs, S.oks_mono he hm _ _ h1, h2⟩
  | row T sz n cs => obtain ⟨h0, vs, cur, h1, h2⟩ := h; exact ⟨h0, vs, cur, S.oks_mono he hm _ _ h1, h2⟩
  | nrow T ks xs =>
    refine ⟨h.1, ?_⟩
    cases xs with
    | nil => trivial
    | cons x xs => obtain ⟨_, h0, vs, cur, h1, h2⟩ := h; exact ⟨h0, vs, cur, S.oks_mono he hm _ _ h1, h2⟩
  | rowT T sz n cs => obtain ⟨h0, vs, cur, h1, h2⟩ := h; exact ⟨h0, vs, cur, S.oks_mono he hm _ _ h1, h2⟩
  | opt x T cs => exact fun hx => by obtain ⟨h0, vs, h1, h2⟩ := h hx; exact ⟨h0, vs, S.oks_mono he hm _ _ h1, h2⟩
  | win cs => obtain ⟨vs, h1, h2⟩ := h; exact ⟨vs, S.oks_mono he hm _ _ h1, h2⟩
  | nwin ks xs =>
    refine ⟨h.1, ?_⟩
    cases xs with
    | nil => trivial
    | cons x xs => obtain ⟨_, vs, h1, h2⟩ := h; exact ⟨vs, S.oks_mono he hm _ _ h1, h2⟩
  | mapo ks vs => obtain ⟨h0, a, b, h1, h2, h3⟩ := h; exact ⟨h0, a, b, S.oks_mono he hm _ _ h1, S.oks_mono he hm _ _ h2, h3⟩
  | orc l => trivial
  | dead => trivial
theorem lt_of_blk {w : World} {b : Nat} {o : Obj} (h : w.heap[b]? = some o) : b < w.heap.size := (Array.getElem?_eq_some_iff.1 h).1
theorem Ob.holds_lt {m : Nat} {ν : Nat → Env} {e : Env} {w : World} {o : Ob} (h : o.holds m ν e w) (ho : o.own = true) : e.blk < w.heap.size := by
  cases o with
  | cells T cs => obtain ⟨h0, vs, h1, h2⟩ := h; exact lt_of_blk h2
  | row T sz n cs => obtain ⟨h0, vs, cur, h1, h2, _⟩ := h; exact lt_of_blk h2
  | nrow T ks xs =>
    cases xs with
    | nil => cases ho
    | cons x xs => obtain ⟨_, h0, vs, cur, h1, h2, _⟩ := h; exact lt_of_blk h2
  | rowT T sz n cs => obtain ⟨h0, vs, cur, h1, h2, _⟩ := h; exact lt_of_blk h2
  | opt x T cs => obtain ⟨h0, vs, h1, h2⟩ := h ho; exact lt_of_blk h2
  | win cs => cases ho
  | nwin ks xs => cases ho
  | mapo ks vs => obtain ⟨h0, a, b, h1, h2, h3, h4⟩ := h; exact lt_of_blk h4
  | orc l => cases ho
  | dead => cases ho
theorem Ob.holds_heap {m : Nat} {ν : Nat → Env} {e : Env} {w w' : World} {o : Ob} (h : o.holds m ν e w) (hw : w'.heap[e.blk]? = w.heap[e.blk]?) : o.holds m ν e w' := by
  cases o with
  | cells T cs => obtain ⟨h0, vs, h1, h2⟩ := h; exact ⟨h0, vs, h1, hw.trans h2⟩
  | row T sz n cs => obtain ⟨h0, vs, cur, h1, h2, h3⟩ := h; exact ⟨h0, vs, cur, h1, hw.trans h2, h3⟩
  | nrow T ks xs =>
    refine ⟨h.1, ?_⟩
    cases xs with
    | nil => trivial
    | cons x xs => obtain ⟨_, h0, vs, cur, h1, h2, h3⟩ := h; exact ⟨h0, vs, cur, h1, hw.trans h2, h3⟩
  | rowT T sz n cs => obtain ⟨h0, vs, cur, h1, h2, h3⟩ := h; exact ⟨h0, vs, cur, h1, hw.trans h2, h3⟩
  | opt x T cs => exact fun hx => by obtain ⟨h0, vs, h1, h2⟩ := h hx; exact ⟨h0, vs, h1, hw.trans h2⟩
  | win cs => obtain ⟨vs, h1, h2⟩ := h; exact ⟨vs, h1, fun j u hu => by rw [World.cell?_of_block (w := w) hw]; exact h2 j u hu⟩
  | nwin ks xs =>
    refine ⟨h.1, ?_⟩
    cases xs with
    | nil => trivial
    | cons x xs => obtain ⟨_, vs, h1, h2⟩ := h; exact ⟨vs, h1, fun j u hu => by rw [World.cell?_of_block (w := w) hw]; exact h2 j u hu⟩
  | mapo ks vs => obtain ⟨h0, a, b, h1, h2, h3, h4⟩ := h; exact ⟨h0, a, b, h1, h2, h3, hw.trans h4⟩
  | orc l => trivial
  | dead => trivial

theorem HOk.size {W : Addr → Nat → Nat → Option (List S)} {w0 w : World} {S0 : List Nat} {ν : Nat → Env} {h : List Ob} (H : HOk W w0 S0 ν h w) : w0.heap.size ≤ w.heap.size := H.upd.size
theorem HOk.step {W : Addr → Nat → Nat → Option (List S)} {w0 w w' : World} {S0 S1 : List Nat} {ν : Nat → Env} {h : List Ob} (H : HOk W w0 S0 ν h w) (hu : Upd S1 w w') (h1 : ∀ x ∈ S1, (x ∈ S0 ∨ w0.heap.size ≤ x) ∧ ∀ i (o : Ob), h[i]? = some o → o.own = true → (ν i).blk ≠ x) : HOk W w0 S0 ν h w' := by
  refine ⟨H.upd.and hu fun x hx => (h1 x hx).1, fun i o hi => ?_, H.own, H.apart, H.win, H.far⟩
  have ho := H.ob i o hi
  cases hown : o.own with
  | true => exact Ob.holds_heap ho (hu.block _ (Ob.holds_lt ho hown) fun hx => (h1 _ hx).2 i o hi hown rfl)
  | false =>
    by_cases hwin : o.isW = true
    · have hw := H.win i o hi hwin
      refine Ob.holds_heap ho (hu.block _ (Nat.lt_of_lt_of_le hw.1 H.size) fun hx => ?_)
      rcases (h1 _ hx).1 with h' | h'
      · exact hw.2 h'
      · omega
    · exact Ob.holds_free ho hown (by simpa using hwin)
theorem HOk.drew {W : Addr → Nat → Nat → Option (List S)} {w0 w : World} {S0 : List Nat} {ν : Nat → Env} {h : List Ob} (H : HOk W w0 S0 ν h w) : HOk W w0 S0 ν h w.drew :=
  H.step (S1 := []) (Upd.refl _ _).drew (by simp)

def updE (ν : Nat → Env) (i : Nat) (e : Env) : Nat → Env := fun j => if j = i then e else ν j
theorem updE_ne {ν : Nat → Env} {i j : Nat} {e : Env} (h : j ≠ i) : updE ν i e j = ν j := if_neg h
theorem updE_eq {ν : Nat → Env} {i : Nat} {e : Env} : updE ν i e i = e := if_pos rfl
theorem updE_lt {ν : Nat → Env} {n : Nat} {e : Env} : ∀ i, i < n → updE ν n e i = ν i := fun i hi => updE_ne (by omega)
theorem HOk.push {W : Addr → Nat → Nat → Option (List S)} {w0 w : World} {S0 : List Nat} {ν : Nat → Env} {h : List Ob} (H : HOk W w0 S0 ν h w) (o : Ob) (e : Env) (hown : o.own = true) (hh : o.holds h.length ν e w)
    (h1 : e.blk ∈ S0 ∨ w0.heap.size ≤ e.blk) (h2 : ∀ i (o : Ob), h[i]? = some o → o.own = true → (ν i).blk ≠ e.blk) : HOk W w0 S0 (updE ν h.length e) (h ++ [o]) w := by
  have key : ∀ i o', (h ++ [o])[i]? = some o' → (i < h.length ∧ h[i]? = some o') ∨ (i = h.length ∧ o' = o) := by
    intro i o' hi
    rcases Nat.lt_or_ge i h.length with hl | hl
    · rw [List.getElem?_append_left hl] at hi; exact Or.inl ⟨hl, hi⟩
    · rw [List.getElem?_append_right hl] at hi
      have : i - h.length = 0 := by
        rcases Nat.eq_zero_or_pos (i - h.length) with h0 | h0
        · exact h0
        · rw [List.getElem?_eq_none (by simp; omega)] at hi; cases hi
      rw [this] at hi
      simp at hi
      exact Or.inr ⟨by omega, hi.symm⟩
  have hm : h.length ≤ (h ++ [o]).length := by simp
  refine ⟨H.upd, fun i o' hi => ?_, fun i o' hi ho => ?_, fun i j o1 o2 hij hi hj ho1 ho2 => ?_, fun i cs hi => ?_, H.far⟩
  · rcases key i o' hi with ⟨hl, hi'⟩ | ⟨rfl, rfl⟩
    · rw [updE_lt i hl]; exact Ob.holds_mono updE_lt hm (H.ob i o' hi')
    · rw [updE_eq]; exact Ob.holds_mono updE_lt hm hh
  · rcases key i o' hi with ⟨hl, hi'⟩ | ⟨rfl, rfl⟩
    · rw [updE_lt i hl]; exact H.own i o' hi' ho
    · rw [updE_eq]; exact h1
  · rcases key i o1 hi with ⟨hl, hi'⟩ | ⟨rfl, rfl⟩
    · rcases key j o2 hj with ⟨hl2, hj'⟩ | ⟨rfl, rfl⟩
      · rw [updE_lt i hl, updE_lt j hl2]; exact H.apart i j o1 o2 hij hi' hj' ho1 ho2
      · rw [updE_lt i hl, updE_eq]; exact h2 i o1 hi' ho1
    · rcases key j o2 hj with ⟨hl2, hj'⟩ | ⟨rfl, rfl⟩
      · rw [updE_lt j hl2, updE_eq]; exact (h2 j o2 hj' ho2).symm
      · exact absurd rfl hij
  · rcases key i _ hi with ⟨hl, hi'⟩ | ⟨rfl, rfl⟩
    · rw [updE_lt i hl]; exact H.win i cs hi'
    · intro hw; rw [Ob.ownW hown] at hw; cases hw
theorem HOk.alloc {W : Addr → Nat → Nat → Option (List S)} {w0 w : World} {S0 : List Nat} {ν : Nat → Env} {h : List Ob} (H : HOk W w0 S0 ν h w) {cs : List S} {vs : List Value} (T : TypeId) (hc : oks h.length ν cs vs) :
    HOk W w0 S0 (updE ν h.length ⟨w.heap.size, 0, 0, 0⟩) (h ++ [.cells T cs]) (w.alloc (.cells vs.toArray T (0, 0))) := by
  refine (H.step (S1 := []) ((Upd.refl _ _).alloc _) (by simp)).push (.cells T cs) ⟨w.heap.size, 0, 0, 0⟩ rfl ⟨rfl, vs, hc, ?_⟩ (Or.inr H.size) fun i o hi ho => ?_
  · show (w.heap.push _)[w.heap.size]? = _
    simp
  · exact Nat.ne_of_lt (Ob.holds_lt (H.ob i o hi) ho)
theorem HOk.allocRow {W : Addr → Nat → Nat → Option (List S)} {w0 w : World} {S0 : List Nat} {ν : Nat → Env} {h : List Ob} (H : HOk W w0 S0 ν h w) {cs : List S} {vs : List Value} (T : TypeId) (sz n : Nat) (hc : oks h.length ν cs vs) (hl : vs.length = n * sz) (hn : n ≤ maxLen) :
    HOk W w0 S0 (updE ν h.length ⟨w.heap.size, 0, n, n⟩) (h ++ [.row T sz (.l n) cs]) (w.alloc (.cells vs.toArray T (0, 0))) := by
  refine (H.step (S1 := []) ((Upd.refl _ _).alloc _) (by simp)).push (.row T sz (.l n) cs) ⟨w.heap.size, 0, n, n⟩ rfl ⟨rfl, vs, vs.toArray, hc, ?_, Nat.le_refl _, hn, by simpa using hl, ?_, hl, rfl⟩ (Or.inr H.size) fun i o hi ho => ?_
  · show (w.heap.push _)[w.heap.size]? = _
    simp
  · simp only [NN.val]; rw [← hl]; simp
  · exact Nat.ne_of_lt (Ob.holds_lt (H.ob i o hi) ho)
theorem HOk.put {W : Addr → Nat → Nat → Option (List S)} {w0 w w' : World} {S0 : List Nat} {ν : Nat → Env} {h : List Ob} (H : HOk W w0 S0 ν h w) {id : Nat} {o0 : Ob} (o : Ob) (hid : h[id]? = some o0) (hown0 : o0.own = true) (hown : o.own = true)
    (hu : Upd [(ν id).blk] w w') (hh : o.holds h.length ν (ν id) w') : HOk W w0 S0 ν (h.set id o) w' := by
  have hlt : id < h.length := (List.getElem?_eq_some_iff.1 hid).1
  have key : ∀ i o', (h.set id o)[i]? = some o' → (i ≠ id ∧ h[i]? = some o') ∨ (i = id ∧ o' = o) := by
    intro i o' hi
    by_cases hii : i = id
    · subst hii; rw [List.getElem?_set_self hlt] at hi; exact Or.inr ⟨rfl, (Option.some.inj hi).symm⟩
    · rw [List.getElem?_set_ne (Ne.symm hii)] at hi; exact Or.inl ⟨hii, hi⟩
  refine ⟨H.upd.and hu fun x hx => ?_, fun i o' hi => ?_, fun i o' hi ho => ?_, fun i j o1 o2 hij hi hj ho1 ho2 => ?_, fun i cs hi => ?_, H.far⟩
  · rw [List.mem_singleton.1 hx]; exact H.own id o0 hid hown0
  · rw [List.length_set]
    rcases key i o' hi with ⟨hii, hi'⟩ | ⟨rfl, rfl⟩
    · have ho := H.ob i o' hi'
      cases hw : o'.own with
      | true => exact Ob.holds_heap ho (hu.block _ (Ob.holds_lt ho hw) (by simpa using H.apart i id o' o0 hii hi' hid hw hown0))
      | false =>
        by_cases hwin : o'.isW = true
        · have hw := H.win i o' hi' hwin
          refine Ob.holds_heap ho (hu.block _ (Nat.lt_of_lt_of_le hw.1 H.size) ?_)
          simp only [List.mem_singleton]
          intro he
          rcases H.own id o0 hid hown0 with h' | h'
          · exact hw.2 (he ▸ h')
          · omega
        · exact Ob.holds_free ho hw (by simpa using hwin)
    · exact hh
  · rcases key i o' hi with ⟨hii, hi'⟩ | ⟨rfl, rfl⟩
    · exact H.own i o' hi' ho
    · exact H.own _ o0 hid hown0
  · rcases key i o1 hi with ⟨hii, hi'⟩ | ⟨rfl, rfl⟩
    · rcases key j o2 hj with ⟨hjj, hj'⟩ | ⟨rfl, rfl⟩
      · exact H.apart i j o1 o2 hij hi' hj' ho1 ho2
      · exact H.apart i _ o1 o0 hij hi' hid ho1 hown0
    · rcases key j o2 hj with ⟨hjj, hj'⟩ | ⟨rfl, rfl⟩
      · exact H.apart _ j o0 o2 hij hid hj' hown0 ho2
      · exact absurd rfl hij
  · rcases key i _ hi with ⟨hii, hi'⟩ | ⟨rfl, rfl⟩
    · exact H.win i cs hi'
    · intro hw; rw [Ob.ownW hown] at hw; cases hw
theorem HOk.kill {W : Addr → Nat → Nat → Option (List S)} {w0 w : World} {S0 : List Nat} {ν : Nat → Env} {h : List Ob} (H : HOk W w0 S0 ν h w) (id : Nat) : HOk W w0 S0 ν (h.set id .dead) w := by
  have key : ∀ i o', (h.set id .dead)[i]? = some o' → (i ≠ id ∧ h[i]? = some o') ∨ o' = .dead := by
    intro i o' hi
    by_cases hii : i = id
    · subst hii
      rcases Nat.lt_or_ge i h.length with hl | hl
      · rw [List.getElem?_set_self hl] at hi; exact Or.inr (Option.some.inj hi).symm
      · rw [List.getElem?_eq_none (by simpa using hl)] at hi; cases hi
    · rw [List.getElem?_set_ne (Ne.symm hii)] at hi; exact Or.inl ⟨hii, hi⟩
  refine ⟨H.upd, fun i o' hi => ?_, fun i o' hi ho => ?_, fun i j o1 o2 hij hi hj ho1 ho2 => ?_, fun i cs hi => ?_, H.far⟩
  · rw [List.length_set]
    rcases key i o' hi with ⟨hii, hi'⟩ | rfl
    · exact H.ob i o' hi'
    · trivial
  · rcases key i o' hi with ⟨hii, hi'⟩ | rfl
    · exact H.own i o' hi' ho
    · cases ho
  · rcases key i o1 hi with ⟨hii, hi'⟩ | rfl
    · rcases key j o2 hj with ⟨hjj, hj'⟩ | rfl
      · exact H.apart i j o1 o2 hij hi' hj' ho1 ho2
      · cases ho2
    · cases ho1
  · rcases key i _ hi with ⟨hii, hi'⟩ | h0
    · exact H.win i cs hi'
    · cases h0; intro hw; cases hw
theorem HOk.orc {W : Addr → Nat → Nat → Option (List S)} {w0 w : World} {S0 : List Nat} {ν : Nat → Env} {h : List Ob} (H : HOk W w0 S0 ν h w) {id : Nat} {l : List OI} (hid : h[id]? = some (.orc l)) (r : List OI) : HOk W w0 S0 ν (h.set id (.orc r)) w := by
  have hlt : id < h.length := (List.getElem?_eq_some_iff.1 hid).1
  have key : ∀ i o', (h.set id (.orc r))[i]? = some o' → (i ≠ id ∧ h[i]? = some o') ∨ (i = id ∧ o' = .orc r) := by
    intro i o' hi
    by_cases hii : i = id
    · subst hii; rw [List.getElem?_set_self hlt] at hi; exact Or.inr ⟨rfl, (Option.some.inj hi).symm⟩
    · rw [List.getElem?_set_ne (Ne.symm hii)] at hi; exact Or.inl ⟨hii, hi⟩
  refine ⟨H.upd, fun i o' hi => ?_, fun i o' hi ho => ?_, fun i j o1 o2 hij hi hj ho1 ho2 => ?_, fun i cs hi => ?_, H.far⟩
  · rw [List.length_set]
    rcases key i o' hi with ⟨hii, hi'⟩ | ⟨rfl, rfl⟩
    · exact H.ob i o' hi'
    · trivial
  · rcases key i o' hi with ⟨hii, hi'⟩ | ⟨rfl, rfl⟩
    · exact H.own i o' hi' ho
    · cases ho
  · rcases key i o1 hi with ⟨hii, hi'⟩ | ⟨rfl, rfl⟩
    · rcases key j o2 hj with ⟨hjj, hj'⟩ | ⟨rfl, rfl⟩
      · exact H.apart i j o1 o2 hij hi' hj' ho1 ho2
      · cases ho2
    · cases ho1
  · rcases key i _ hi with ⟨hii, hi'⟩ | ⟨_, h0⟩
    · exact H.win i cs hi'
    · cases h0; intro hw; cases hw
end Go.SX

namespace Go.SX
open Go.RowKit
theorem recC_len : ∀ (ks : List Kd) (x : List Int), (recC ks x).length = ks.length
  | [], _ => rfl
  | k :: ks, x => by simp [recC, recC_len ks]
theorem recC_get : ∀ (ks : List Kd) (x : List Int) (j : Nat), (recC ks x)[j]? = (ks[j]?).map fun k => kdc k (x.getD j 0)
  | [], _, _ => by simp [recC]
  | k :: ks, x, 0 => by cases x <;> simp [recC]
  | k :: ks, x, j + 1 => by
    simp only [recC, List.getElem?_cons_succ]
    rw [recC_get ks x.tail j]
    cases x <;> simp
theorem elC_get (xs : List (List Int)) (i : Nat) : ∀ (ks : List Kd) (o j : Nat), (elC xs i ks o)[j]? = (ks[j]?).map fun k => kdc k (elI xs i (o + j))
  | [], _, _ => by simp [elC]
  | k :: ks, o, 0 => by simp [elC]
  | k :: ks, o, j + 1 => by
    simp only [elC, List.getElem?_cons_succ]
    rw [elC_get xs i ks (Nat.succ o) j, show Nat.succ o + j = o + (j + 1) by omega]
theorem rowC_len (ks : List Kd) : ∀ (xs : List (List Int)), (rowC ks xs).length = xs.length * ks.length
  | [] => by simp [rowC]
  | x :: xs => by simp only [rowC, List.length_append, recC_len, rowC_len ks xs, List.length_cons, Nat.succ_mul]; omega
theorem rowC_get (ks : List Kd) : ∀ (xs : List (List Int)) (i j : Nat), i < xs.length → j < ks.length → (rowC ks xs)[i * ks.length + j]? = (ks[j]?).map fun k => kdc k (elI xs i j)
  | [], i, j, h, _ => by simp at h
  | x :: xs, 0, j, _, hj => by
    simp only [rowC, Nat.zero_mul, Nat.zero_add]
    rw [List.getElem?_append_left (by rw [recC_len]; exact hj), recC_get]
    rfl
  | x :: xs, i + 1, j, h, hj => by
    simp only [rowC]
    have hle : ks.length ≤ (i + 1) * ks.length + j := by rw [Nat.succ_mul]; omega
    rw [List.getElem?_append_right (by rw [recC_len]; exact hle), recC_len, show (i + 1) * ks.length + j - ks.length = i * ks.length + j by rw [Nat.succ_mul]; omega]
    rw [rowC_get ks xs i j (by simpa using h) hj]
    simp [elI, rowL]
theorem mul_lt {i n sz : Nat} (h : i < n) : i * sz + sz ≤ n * sz := by
  have := Nat.mul_le_mul_right sz (Nat.succ_le_of_lt h)
  rw [Nat.succ_mul] at this
  exact this
theorem rowC_sub {ks : List Kd} {xs : List (List Int)} {i o n : Nat} (hi : i < xs.length) (hn : o + n ≤ ks.length) : elC xs i ((ks.drop o).take n) o = ((rowC ks xs).drop (i * ks.length + o)).take n := by
  apply List.ext_getElem?
  intro j
  rw [elC_get, List.getElem?_take, List.getElem?_take]
  split
  · rename_i hj
    rw [List.getElem?_drop, List.getElem?_drop, Nat.add_assoc, rowC_get ks xs i (o + j) hi (by omega)]
  · rfl
theorem oks_ext {m : Nat} {ν : Nat → Env} : ∀ {cs : List S} {vs : List Value}, cs.length = vs.length → (∀ (j : Nat) (c : S) v, cs[j]? = some c → vs[j]? = some v → c.ok m ν v) → S.oks m ν cs vs
  | [], [], _, _ => by simp [S.oks]
  | [], _ :: _, h, _ => by simp at h
  | _ :: _, [], h, _ => by simp at h
  | c :: cs, v :: vs, h, hg => by
    simp only [S.oks]
    exact ⟨v, vs, rfl, hg 0 c v rfl rfl, oks_ext (by simpa using h) fun j c' v' h1 h2 => hg (j + 1) c' v' (by simpa using h1) (by simpa using h2)⟩
theorem oks_at {m : Nat} {ν : Nat → Env} : ∀ {cs : List S} {vs : List Value} {j : Nat} {c : S} {v : Value}, S.oks m ν cs vs → cs[j]? = some c → vs[j]? = some v → c.ok m ν v
  | [], vs, j, c, v, _, h, _ => by simp at h
  | c0 :: cs, vs, j, c, v, h, h1, h2 => by
    simp only [S.oks] at h
    obtain ⟨v0, r, rfl, g1, g2⟩ := h
    cases j with
    | zero =>
      simp only [List.getElem?_cons_zero, Option.some.injEq] at h1 h2
      subst h1; subst h2; exact g1
    | succ j => exact oks_at g2 (by simpa using h1) (by simpa using h2)
theorem setI_len (xs : List (List Int)) (i j : Nat) (v : Int) : (setI xs i j v).length = xs.length := by simp [setI]
theorem setI_get {xs : List (List Int)} {i j : Nat} {v : Int} (hi : i < xs.length) (i' j' : Nat) : elI (setI xs i j v) i' j' = if i' = i ∧ j' = j then v else elI xs i' j' := by
  unfold elI
  by_cases h1 : i' = i
  · subst h1
    have : rowL (setI xs i' j v) i' = ((rowL xs i' ++ List.replicate (j + 1 - (rowL xs i').length) 0).set j v) := by
      simp [rowL, setI, List.getElem?_set_self hi]
    rw [this]
    by_cases h2 : j' = j
    · subst h2
      rw [if_pos ⟨rfl, rfl⟩]
      simp only [List.getD_eq_getElem?_getD]
      rw [List.getElem?_set_self (by simp; omega)]
      rfl
    · rw [if_neg (fun h => h2 h.2)]
      simp only [List.getD_eq_getElem?_getD]
      rw [List.getElem?_set_ne (fun h => h2 h.symm)]
      by_cases h3 : j' < (rowL xs i').length
      · rw [List.getElem?_append_left h3]
      · rw [List.getElem?_append_right (by omega), List.getElem?_replicate, List.getElem?_eq_none (by omega)]
        split <;> rfl
  · rw [if_neg (fun h => h1 h.1)]
    have : rowL (setI xs i j v) i' = rowL xs i' := by
      simp only [rowL, setI, List.getD_eq_getElem?_getD]
      rw [List.getElem?_set_ne (fun h => h1 h.symm)]
    rw [this]
theorem b2i_nz (x : Bool) : nz (b2i x) = x := by cases x <;> rfl
theorem numS_ok {k : Kd} {s : S} {n : Int} (h : numS k s = some n) {m : Nat} {ν : Nat → Env} {v : Value} (hv : s.ok m ν v) : (kdc k n).ok m ν v := by
  unfold numS at h
  split at h
  · split at h
    · rename_i hk; subst hk; cases h; simpa only [kdc, S.ok] using hv
    · cases h
  · split at h
    · rename_i hk; subst hk; cases h; simpa only [kdc, S.ok] using hv
    · cases h
  · cases h; simp only [kdc, S.ok] at hv ⊢; rw [b2i_nz]; exact hv
  · cases h; simp only [kdc, S.ok] at hv ⊢; rw [b2i_nz]; exact hv
  · cases h
theorem putE_len {i : Nat} : ∀ {vs : List S} {xs xs' : List (List Int)} {ks : List Kd} {j : Nat}, putE xs i ks j vs = some xs' → xs'.length = xs.length
  | [], xs, xs', ks, j, h => by simp only [putE, Option.some.injEq] at h; rw [h]
  | v :: vs, xs, xs', ks, j, h => by
    unfold putE at h
    split at h
    case h_2 => cases h
    split at h
    case h_2 => cases h
    rw [putE_len h, setI_len]
theorem putE_get {i : Nat} : ∀ {vs : List S} {xs xs' : List (List Int)} {ks : List Kd} {j : Nat}, putE xs i ks j vs = some xs' → i < xs.length → ∀ i' j', (i' = i ∧ j ≤ j' ∧ j' < j + vs.length ∧ ∃ k s, ks[j']? = some k ∧ vs[j' - j]? = some s ∧ numS k s = some (elI xs' i' j')) ∨ (¬ (i' = i ∧ j ≤ j' ∧ j' < j + vs.length) ∧ elI xs' i' j' = elI xs i' j')
  | [], xs, xs', ks, j, h, hi, i', j' => by
    simp only [putE, Option.some.injEq] at h
    subst h
    exact Or.inr ⟨by simp, rfl⟩
  | v :: vs, xs, xs', ks, j, h, hi, i', j' => by
    unfold putE at h
    split at h
    case h_2 => cases h
    rename_i k hk
    split at h
    case h_2 => cases h
    rename_i n hn
    have hg := setI_get (xs := xs) (i := i) (j := j) (v := n) hi
    rcases putE_get h (by rw [setI_len]; exact hi) i' j' with ⟨h1, h2, h3, k', s, g1, g2, g3⟩ | ⟨h1, h2⟩
    · refine Or.inl ⟨h1, by omega, by simp only [List.length_cons]; omega, k', s, g1, ?_, g3⟩
      rw [show j' - j = (j' - Nat.succ j) + 1 by omega, List.getElem?_cons_succ]; exact g2
    · rw [hg] at h2
      by_cases hj : i' = i ∧ j' = j
      · rw [if_pos hj] at h2
        obtain ⟨rfl, rfl⟩ := hj
        exact Or.inl ⟨rfl, Nat.le_refl _, by simp, k, v, hk, by simp, by rw [h2]; exact hn⟩
      · rw [if_neg hj] at h2
        refine Or.inr ⟨?_, h2⟩
        simp only [List.length_cons]
        omega
end Go.SX

namespace Go.SX
open Go.RowKit

structure TIOk (P : Program) (t : TypeId) (ti : TI) : Prop where
  zl : ti.zero.length = ti.size
  info : ∃ i z vs, P.info? t = some i ∧ i.size = ti.size ∧ i.bytes = ti.bytes ∧ i.zero = some z ∧ z.cells = vs.toArray ∧ (∀ m ν, oks m ν ti.zero vs) ∧ (match ti.agg with
    | true => z = .agg vs.toArray
    | false => vs = [z])
  desc : match ti.d with
    | .int k => P.underlying t = some (.int k)
    | .bool => P.underlying t = some .bool
    | .string => P.underlying t = some .string
    | .ptr e => P.underlying t = some (.pointer e)
    | .slice e => P.underlying t = some (.slice e)
    | .arr n e => P.underlying t = some (.array n e)
    | .struct fs => ∃ fa : Array Field, P.underlying t = some (.struct fa) ∧ fa.toList.map (fun f => (f.offset, f.type)) = fs ∧ (∀ f ∈ fa.toList, f.name ≠ "_") ∧ P.stoodInHeld t = false
    | .map k e => P.underlying t = some (.map k e)
    | .iface => ∃ ms, P.underlying t = some (.interface ms)
    | .func => ∃ a b c, P.underlying t = some (.func a b c)
  guard : ti.agg = true → ti.cmp = true → P.eqGuardType P.depth t = false
  mets : ∀ n f, ti.ms.find? (fun m => m.1 == n) = some (n, f) → ∃ e i, P.underlying t = some (.pointer e) ∧ P.info? t = some i ∧ ∃ me, i.methods.find? (·.name == n) = some me ∧ me.path = #[] ∧ me.func = some (f, true)
def TOk (P : Program) (tt : Nat → Option TI) : Prop := ∀ t ti, tt t = some ti → TIOk P t ti

section
variable {W : Addr → Nat → Nat → Option (List S)}
variable {P : Program} {t : TypeId} {ti : TI}
theorem run_size (h : TIOk P t ti) (w : World) : (sizeOf t).run P w = .ok ti.size w := by
  obtain ⟨i, z, vs, h1, h2, _⟩ := h.info
  simp [sizeOf, typeInfo, h1, h2]
theorem run_agg (h : TIOk P t ti) (w : World) : (isAgg t).run P w = .ok ti.agg w := by
  have hd := h.desc
  cases hti : ti.d with
  | struct fs => simp only [hti] at hd; obtain ⟨fa, h1, _⟩ := hd; simp [isAgg, run_underlying h1, TI.agg, hti]
  | iface => simp only [hti] at hd; obtain ⟨fa, h1⟩ := hd; simp [isAgg, run_underlying h1, TI.agg, hti]
  | func => simp only [hti] at hd; obtain ⟨a, b, c, h1⟩ := hd; simp [isAgg, run_underlying h1, TI.agg, hti]
  | _ => simp only [hti] at hd; simp [isAgg, run_underlying hd, TI.agg, hti]
theorem run_zero (h : TIOk P t ti) : ∃ z vs, z.cells = vs.toArray ∧ (∀ m ν, oks m ν ti.zero vs) ∧ ∀ w, (zeroValue t).run P w = .ok z w := by
  obtain ⟨i, z, vs, h1, h2, h3, h4, h5, h6, _⟩ := h.info
  exact ⟨z, vs, h5, h6, fun w => by simp [zeroValue, typeInfo, h1, h4]⟩
theorem run_zero2 (h : TIOk P t ti) : ∃ z vs, (match ti.agg with
    | true => z = .agg vs.toArray
    | false => vs = [z]) ∧ (∀ m ν, oks m ν ti.zero vs) ∧ ∀ w, (zeroValue t).run P w = .ok z w := by
  obtain ⟨i, z, vs, h1, h2, h3, h4, h5, h6, h7⟩ := h.info
  exact ⟨z, vs, h7, h6, fun w => by simp [zeroValue, typeInfo, h1, h4]⟩
theorem run_info (h : TIOk P t ti) : ∃ i, i.size = ti.size ∧ i.bytes = ti.bytes ∧ ∀ w, (typeInfo t).run P w = .ok i w := by
  obtain ⟨i, z, vs, h1, h2, h3, _⟩ := h.info
  exact ⟨i, h2, h3, fun w => by simp [typeInfo, h1]⟩
end

section
variable {W : Addr → Nat → Nat → Option (List S)}
variable {m : Nat} {ν : Nat → Env}
theorem ofV1_ok (v : Value) : (ofV1 v).ok m ν v := by
  cases v with
  | pointer a => cases a <;> simp [ofV1, S.ok]
  | _ => simp [ofV1, S.ok]
theorem oks_ofV1 : ∀ vs : List Value, oks m ν (vs.map ofV1) vs
  | [] => oks_nil
  | v :: vs => oks_cons (ofV1_ok v) (oks_ofV1 vs)
theorem ofV_ok (v : Value) : (ofV v).ok m ν v := by
  cases v with
  | agg cs => simp only [ofV, S.ok]; exact ⟨cs.toList, by simp, oks_ofV1 _⟩
  | _ => simp only [ofV]; exact ofV1_ok _
theorem getT_ok : ∀ {t : List S} {vs : List Value} (i : Nat), oks m ν t vs → (getT t i).ok m ν (vs.getD i undef)
  | [], vs, i, h => by simp only [S.oks] at h; subst h; simp [getT_nil, S.ok]
  | x :: r, vs, 0, h => by
    simp only [S.oks] at h
    obtain ⟨v, r, rfl, h1, h3⟩ := h
    simpa [getT_zero] using h1
  | x :: r, vs, i + 1, h => by
    simp only [S.oks] at h
    obtain ⟨v, r, rfl, h1, h3⟩ := h
    simpa [getT_succ] using getT_ok i h3
theorem setT_ok : ∀ {t : List S} {vs : List Value} (i : Nat) {s : S} {v : Value}, oks m ν t vs → s.ok m ν v → oks m ν (setT t i s) (vs.set i v)
  | [], vs, i, s, v, h, hs => by simp only [S.oks] at h; subst h; simpa [setT] using oks_nil
  | x :: r, vs, 0, s, v, h, hs => by
    simp only [S.oks] at h
    obtain ⟨u, r, rfl, h1, h3⟩ := h
    simpa [setT] using oks_cons hs h3
  | x :: r, vs, i + 1, s, v, h, hs => by
    simp only [S.oks] at h
    obtain ⟨u, r, rfl, h1, h3⟩ := h
    simpa [setT] using oks_cons h1 (setT_ok i h3 hs)
theorem ev_ok {t : List S} {a : Act} (h : oks m ν t a.tmps.toList) (x : Operand) : (evS t x).ok m ν (a.eval x) := by
  cases x with
  | tmp i =>
    have := getT_ok i h
    simpa [evS, Act.eval] using this
  | const v => exact ofV_ok v
  | global g => simp [evS, S.ok, Act.eval]
  | func f => simp [evS, S.ok, S.oks, Act.eval]
end

def Gives (P : Program) (m : Nat) (ν : Nat → Env) (e : Sem Value) (K : S → Prop) : Prop := ∃ s v, K s ∧ s.ok m ν v ∧ ∀ w, e.run P w = .ok v w

section
variable {W : Addr → Nat → Nat → Option (List S)}
variable {P : Program} {m : Nat} {ν : Nat → Env} {K : S → Prop}
theorem intS_ok (lit : Bool) (k : IntKind) (op : AO) (a b : Int) : (intS (std W) lit k op a b).ok m ν (.int k (stdA op k a b)) := by
  cases lit <;> simp [intS, S.ok, std, stdAF_eq]
theorem cmpS_ok (lit : Bool) (op : BO) (a b : Int) : (cmpS (std W) lit op a b).ok m ν (.bool (stdB op a b)) := by
  cases lit <;> simp [cmpS, S.ok, std, stdBF_eq]
theorem tb_std (lit : Bool) (op : BO) (a b : Int) : tb (std W) lit op a b = stdB op a b := by
  cases lit
  · rfl
  · exact stdBF_eq op a b
theorem ifP {c : Prop} [Decidable c] {A B : Prop} (h : if c then A else B) (hB : ¬ B) : c ∧ A := by
  split at h
  · exact ⟨‹_›, h⟩
  · exact absurd h hB
theorem binI_sound {lit : Bool} {op : BinOp} {k k' : IntKind} {a b : Int} (t : TypeId) (h : binI (std W) lit op k k' a b K) : Gives P m ν (binOp op t (.int k a) (.int k' b)) K := by
  cases op <;> simp only [binI] at h
  case shl =>
    obtain ⟨h0, h1⟩ := ifP h id
    rw [tb_std] at h0
    simp only [stdB, decide_eq_true_eq] at h0
    exact ⟨_, _, h1, intS_ok .., fun w => by simp [binOp, Op.shift, stdA, show ¬ b < 0 by omega]⟩
  case shr =>
    obtain ⟨h0, h1⟩ := ifP h id
    rw [tb_std] at h0
    simp only [stdB, decide_eq_true_eq] at h0
    exact ⟨_, _, h1, intS_ok .., fun w => by simp [binOp, Op.shift, stdA, show ¬ b < 0 by omega]⟩
  case quo =>
    obtain ⟨rfl, h2⟩ := ifP h id
    obtain ⟨h0, h1⟩ := ifP h2 id
    rw [tb_std] at h0
    simp only [stdB, bne_iff_ne, ne_eq] at h0
    exact ⟨_, _, h1, intS_ok .., fun w => by simp [binOp, Op.intDiv, stdA, h0]⟩
  case rem =>
    obtain ⟨rfl, h2⟩ := ifP h id
    obtain ⟨h0, h1⟩ := ifP h2 id
    rw [tb_std] at h0
    simp only [stdB, bne_iff_ne, ne_eq] at h0
    exact ⟨_, _, h1, intS_ok .., fun w => by simp [binOp, Op.intDiv, stdA, h0]⟩
  all_goals obtain ⟨rfl, h1⟩ := ifP h id
  case eql => exact ⟨_, _, h1, cmpS_ok .., fun w => by simp [binOp, Op.intCmp, stdB]⟩
  case neq => exact ⟨_, _, h1, cmpS_ok .., fun w => by simp [binOp, Op.intCmp, stdB]⟩
  case lss => exact ⟨_, _, h1, cmpS_ok .., fun w => by simp [binOp, Op.intCmp, stdB]⟩
  case leq => exact ⟨_, _, h1, cmpS_ok .., fun w => by simp [binOp, Op.intCmp, stdB]⟩
  case gtr => exact ⟨_, _, h1, cmpS_ok .., fun w => by simp [binOp, Op.intCmp, stdB]⟩
  case geq => exact ⟨_, _, h1, cmpS_ok .., fun w => by simp [binOp, Op.intCmp, stdB]⟩
  case add => exact ⟨_, _, h1, intS_ok .., fun w => by simp [binOp, Op.intArith, stdA]⟩
  case sub => exact ⟨_, _, h1, intS_ok .., fun w => by simp [binOp, Op.intArith, stdA]⟩
  case mul => exact ⟨_, _, h1, intS_ok .., fun w => by simp [binOp, Op.intArith, stdA]⟩
  case and => exact ⟨_, _, h1, intS_ok .., fun w => by simp [binOp, Op.intBits, stdA]⟩
  case or => exact ⟨_, _, h1, intS_ok .., fun w => by simp [binOp, Op.intBits, stdA]⟩
  case xor => exact ⟨_, _, h1, intS_ok .., fun w => by simp [binOp, Op.intBits, stdA]⟩
  case andNot => exact ⟨_, _, h1, intS_ok .., fun w => by simp [binOp, Op.intBits, stdA]⟩
end
end Go.SX

namespace Go.SX
open Go.RowKit
section
variable {W : Addr → Nat → Nat → Option (List S)}
variable {m : Nat} {ν : Nat → Env}
theorem headL_spec : ∀ {cs : List S} {n : Nat} {r : List S}, headL cs n = some r → r = cs.take n ∧ n ≤ cs.length
  | cs, 0, r, h => by rw [headL_zero] at h; cases h; simp
  | [], n + 1, r, h => by rw [headL_nil] at h; cases h
  | x :: cs, n + 1, r, h => by
    rw [headL_cons] at h
    cases h1 : headL cs n with
    | none => rw [h1] at h; cases h
    | some y =>
      rw [h1] at h
      simp only [Option.some.injEq] at h
      obtain ⟨h2, h3⟩ := headL_spec h1
      subst h
      simp at h2 h3 ⊢
      exact ⟨h2, h3⟩
theorem dropO_spec : ∀ {cs : List S} {n : Nat} {r : List S}, dropO cs n = some r → r = cs.drop n ∧ n ≤ cs.length
  | cs, 0, r, h => by rw [dropO_zero] at h; cases h; simp
  | [], n + 1, r, h => by rw [dropO_nil] at h; cases h
  | x :: cs, n + 1, r, h => by
    rw [dropO_cons] at h
    obtain ⟨h2, h3⟩ := dropO_spec h
    simp at h2 ⊢
    exact ⟨h2, h3⟩
theorem subL_spec {cs : List S} {o n : Nat} {r : List S} (h : subL cs o n = some r) : r = (cs.drop o).take n ∧ o + n ≤ cs.length := by
  unfold subL at h
  split at h
  · rename_i r' h1
    obtain ⟨rfl, h3⟩ := dropO_spec h1
    obtain ⟨rfl, h5⟩ := headL_spec h
    simp at h5 ⊢
    omega
  · cases h
theorem subL_ok {cs : List S} {vs : List Value} {o n : Nat} {r : List S} (h : subL cs o n = some r) (hc : oks m ν cs vs) : oks m ν r ((vs.drop o).take n) ∧ o + n ≤ vs.length := by
  obtain ⟨rfl, h2⟩ := subL_spec h
  exact ⟨oks_take _ (oks_drop _ hc), by rw [oks_len hc]; exact h2⟩
theorem putH_spec : ∀ {cs vs r : List S}, putH cs vs = some r → r = vs ++ cs.drop vs.length ∧ vs.length ≤ cs.length
  | cs, [], r, h => by rw [putH_nil] at h; cases h; simp
  | [], v :: vs, r, h => by rw [putH_none] at h; cases h
  | x :: cs, v :: vs, r, h => by
    rw [putH_cons] at h
    cases h1 : putH cs vs with
    | none => rw [h1] at h; cases h
    | some y =>
      rw [h1] at h
      simp only [Option.some.injEq] at h
      obtain ⟨h2, h3⟩ := putH_spec h1
      subst h
      simp at h2 h3 ⊢
      exact ⟨h2, h3⟩
theorem putL_spec : ∀ {cs : List S} {o : Nat} {vs r : List S}, putL cs o vs = some r → r = cs.take o ++ vs ++ cs.drop (o + vs.length) ∧ o + vs.length ≤ cs.length
  | cs, 0, vs, r, h => by
    rw [putL_zero] at h
    obtain ⟨h2, h3⟩ := putH_spec h
    simp [h2, h3]
  | [], o + 1, vs, r, h => by rw [putL_nil] at h; cases h
  | x :: cs, o + 1, vs, r, h => by
    rw [putL_cons] at h
    cases h1 : putL cs o vs with
    | none => rw [h1] at h; cases h
    | some y =>
      rw [h1] at h
      simp only [Option.some.injEq] at h
      obtain ⟨h2, h3⟩ := putL_spec h1
      subst h
      rw [show o + 1 + vs.length = (o + vs.length) + 1 by omega]
      simp at h2 ⊢
      exact ⟨h2, by omega⟩
end
section
variable {W : Addr → Nat → Nat → Option (List S)}
variable {P : Program} {tt : Nat → Option TI} {m : Nat} {ν : Nat → Env}
theorem part_ok (hT : TOk P tt) {t : TypeId} {cs : List S} {vs : List Value} {off : Nat} {s : S} (h : partS tt t cs off = some s) (hc : oks m ν cs vs) : ∃ v, s.ok m ν v ∧ ∀ w, (part t vs.toArray off).run P w = .ok v w := by
  unfold partS at h
  cases ht : tt t with
  | none => rw [ht] at h; cases h
  | some ti =>
    have hti := hT t ti ht
    simp only [ht] at h
    cases ha : ti.agg with
    | true =>
      simp only [ha] at h
      cases h1 : subL cs off ti.size with
      | none => simp [h1] at h
      | some r =>
        simp only [h1, Option.some.injEq] at h
        subst h
        obtain ⟨h2, h3⟩ := subL_ok h1 hc
        refine ⟨.agg ((vs.drop off).take ti.size).toArray, by simp only [S.ok]; exact ⟨_, rfl, h2⟩, fun w => ?_⟩
        simp only [part, Sem.run_bind, run_agg hti, run_size hti, ha, Result.andThen_ok, if_true, Sem.run_pure]
        congr 2
        apply Array.toList_inj.1
        simp
    | false =>
      simp only [ha] at h
      cases h1 : subL cs off 1 with
      | none => simp [h1] at h
      | some r =>
        simp only [h1] at h
        match r, h1, h with
        | [], h1, h => simp at h
        | [x], h1, h =>
          simp only at h
          split at h
          · simp only [Option.some.injEq] at h
            subst h
            obtain ⟨h2, h3⟩ := subL_ok h1 hc
            have h4 : (vs.drop off).take 1 = [vs[off]] := by
              rw [List.drop_eq_getElem_cons (by omega)]; rfl
            rw [h4] at h2
            refine ⟨_, (oks_cons_iff.1 h2).1, fun w => ?_⟩
            have h5 : vs.toArray[off]? = some vs[off] := by simp
            simp [part, run_agg hti, ha, h5]
          · cases h
        | x :: y :: r, h1, h => simp at h

theorem andS_ok {a b r : S} {x y : Bool} (h : andS (std W) a b = some r) (ha : a.ok m ν (.bool x)) (hb : b.ok m ν (.bool y)) : r.ok m ν (.bool (x && y)) := by
  unfold andS at h
  split at h <;> simp only [Option.some.injEq, reduceCtorEq] at h <;> subst h <;> simp_all [S.ok, std, stdQ]
theorem notS_ok {a r : S} {v : Value} (h : notS (std W) a = some r) (ha : a.ok m ν v) : ∃ x, v = .bool x ∧ r.ok m ν (.bool (!x)) := by
  unfold notS at h
  split at h <;> simp only [Option.some.injEq, reduceCtorEq] at h <;> subst h <;> simp_all [S.ok, std, stdQ]
theorem eq1_ok {t : TypeId} {ti : TI} (hti : TIOk P t ti) {x y r : S} {v u : Value} (h : eq1 (std W) ti.d x y = some r) (hx : x.ok m ν v) (hy : y.ok m ν u) :
    ∃ b, r.ok m ν (.bool b) ∧ ∀ d w, (Op.equalIn (d + 1) t v u).run P w = .ok b w := by
  have hd := hti.desc
  cases hti' : ti.d with
  | int k0 =>
    simp only [hti'] at h hd
    cases x <;> cases y <;> simp only [eq1, reduceCtorEq] at h
    all_goals
      split at h
      · rename_i hk; subst hk
        simp only [Option.some.injEq] at h
        subst h
        simp only [S.ok] at hx hy
        subst hx; subst hy
        exact ⟨_, (by simp only [S.ok, std, stdB]; rfl), fun d w => by simp [Op.equalIn, run_underlying hd]⟩
      · cases h
  | bool =>
    simp only [hti'] at h hd
    cases x <;> cases y <;> simp only [eq1, reduceCtorEq, Option.some.injEq] at h
    all_goals
      subst h
      simp only [S.ok] at hx hy
      subst hx; subst hy
      exact ⟨_, (by simp only [S.ok, std, stdQ]; rfl), fun d w => by simp [Op.equalIn, run_underlying hd]⟩
  | string =>
    simp only [hti'] at h hd
    cases x <;> cases y <;> simp only [eq1, reduceCtorEq, Option.some.injEq] at h
    subst h
    simp only [S.ok] at hx hy
    subst hx; subst hy
    refine ⟨_, (by simp only [S.ok]; rfl), fun d w => ?_⟩
    rw [run_equalIn_string w d t _ _ hd]
    rw [ByteArray.toList_eq, ByteArray.toList_eq]
  | ptr e =>
    simp only [hti'] at h hd
    cases x <;> cases y <;> simp only [eq1, reduceCtorEq, Option.some.injEq] at h
    all_goals
      subst h
      simp only [S.ok] at hx hy
    · subst hy; obtain ⟨_, rfl⟩ := hx; exact ⟨_, (by simp only [S.ok]; rfl), fun d w => by simp [Op.equalIn, run_underlying hd]⟩
    · subst hx; obtain ⟨_, rfl⟩ := hy; exact ⟨_, (by simp only [S.ok]; rfl), fun d w => by simp [Op.equalIn, run_underlying hd]⟩
    · subst hx; subst hy; exact ⟨_, (by simp only [S.ok]; rfl), fun d w => by simp [Op.equalIn, run_underlying hd]⟩
  | _ => simp [hti', eq1] at h

def eqElems (d : Nat) (e : TypeId) (n : Nat) (xs ys : Array Value) : List Nat → Sem Bool
  | [] => pure true
  | i :: is => do
    let a ← part e xs (i * n)
    let b ← part e ys (i * n)
    let r ← Op.equalIn d e a b
    if (!r) = true then pure false else eqElems d e n xs ys is
theorem run_equalIn_arr (w : World) (d : Nat) (t : TypeId) (xs ys : Array Value) {len : Nat} {e : TypeId} (ht : P.underlying t = some (.array len e)) :
    (Op.equalIn (d + 1) t (.agg xs) (.agg ys)).run P w = ((sizeOf e).run P w).andThen fun n w => (eqElems d e n xs ys (List.range len)).run P w := by
  simp only [Op.equalIn, Sem.run_bind, run_underlying ht, Result.andThen_ok]
  congr 1
  funext n w1
  clear ht
  rw [Std.Legacy.Range.forIn_eq_forIn_range']
  simp only [Std.Legacy.Range.size, Nat.sub_zero, Nat.add_sub_cancel, Nat.div_one, ← List.range_eq_range']
  generalize List.range len = is
  induction is generalizing w1 with
  | nil => simp [eqElems]
  | cons f fs ih =>
    simp only [List.forIn_cons, eqElems, Sem.run_bind, Sem.run_ite]
    generalize (part e xs (f * n)).run P w1 = r1
    cases r1 with
    | ok a w1 =>
      simp only [Result.andThen_ok]
      generalize (part e ys (f * n)).run P w1 = r2
      cases r2 with
      | ok b w2 =>
        simp only [Result.andThen_ok]
        generalize (Op.equalIn d e a b).run P w2 = r3
        cases r3 with
        | ok r w3 =>
          cases r
          · simp only [Result.andThen_ok, Bool.not_false, if_true, Sem.run_pure]
          · simp only [Result.andThen_ok, Bool.not_true, Bool.false_eq_true, if_false, Sem.run_pure]
            exact ih w3
        | halt x w3 => simp [Result.andThen]
      | halt x w2 => simp [Result.andThen]
    | halt x w1 => simp [Result.andThen]
def EqRec (P : Program) (m : Nat) (ν : Nat → Env) (d : Nat) (rec : TypeId → S → S → Option S) : Prop := ∀ t a b r v u, rec t a b = some r → a.ok m ν v → b.ok m ν u → ∃ bb, r.ok m ν (.bool bb) ∧ ∀ w, (Op.equalIn d t v u).run P w = .ok bb w
theorem eqF_struct (hT : TOk P tt) {d : Nat} {rec : TypeId → S → S → Option S} (hrec : EqRec P m ν d rec) {xs ys : List S} {vs us : List Value} (hx : oks m ν xs vs) (hy : oks m ν ys us) :
    ∀ (fa : List Field) {r : S}, (∀ f ∈ fa, f.name ≠ "_") → eqF (std W) tt rec (fa.map fun f => (f.offset, f.type)) xs ys = some r → ∃ bb, r.ok m ν (.bool bb) ∧ ∀ w, (Op.eqFields d vs.toArray us.toArray fa).run P w = .ok bb w
  | [], r, _, h => by
    simp only [List.map_nil, eqF, Option.some.injEq] at h
    subst h
    exact ⟨true, by simp [S.ok], fun w => by simp [Op.eqFields]⟩
  | f :: fa, r, hn, h => by
    simp only [List.map_cons, eqF] at h
    split at h
    case h_2 => cases h
    rename_i a b ha hb
    split at h
    case h_2 => cases h
    rename_i r1 hr1
    split at h
    case h_2 => cases h
    rename_i r2 hr2
    obtain ⟨v, hv, hvr⟩ := part_ok hT ha hx
    obtain ⟨u, hu, hur⟩ := part_ok hT hb hy
    obtain ⟨b1, h1, h1r⟩ := hrec _ _ _ _ _ _ hr1 hv hu
    obtain ⟨b2, h2, h2r⟩ := eqF_struct hT hrec hx hy fa (fun g hg => hn g (by simp [hg])) hr2
    refine ⟨b1 && b2, andS_ok h h1 h2, fun w => ?_⟩
    rw [Op.eqFields, if_pos (hn f (by simp))]
    cases b1 <;> simp [hvr, hur, h1r, h2r]
theorem eqF_elems (hT : TOk P tt) {d : Nat} {rec : TypeId → S → S → Option S} (hrec : EqRec P m ν d rec) {xs ys : List S} {vs us : List Value} (hx : oks m ν xs vs) (hy : oks m ν ys us) (e : TypeId) (sz : Nat) :
    ∀ (n k : Nat) {r : S}, eqF (std W) tt rec (places sz e n (k * sz)) xs ys = some r → ∃ bb, r.ok m ν (.bool bb) ∧ ∀ w, (eqElems d e sz vs.toArray us.toArray (List.range' k n)).run P w = .ok bb w
  | 0, k, r, h => by
    simp only [places, eqF, Option.some.injEq] at h
    subst h
    exact ⟨true, by simp [S.ok], fun w => by simp [eqElems]⟩
  | n + 1, k, r, h => by
    simp only [places, eqF] at h
    rw [show k * sz + sz = (k + 1) * sz by rw [Nat.succ_mul]] at h
    split at h
    case h_2 => cases h
    rename_i a b ha hb
    split at h
    case h_2 => cases h
    rename_i r1 hr1
    split at h
    case h_2 => cases h
    rename_i r2 hr2
    obtain ⟨v, hv, hvr⟩ := part_ok hT ha hx
    obtain ⟨u, hu, hur⟩ := part_ok hT hb hy
    obtain ⟨b1, h1, h1r⟩ := hrec _ _ _ _ _ _ hr1 hv hu
    obtain ⟨b2, h2, h2r⟩ := eqF_elems hT hrec hx hy e sz n (k + 1) hr2
    refine ⟨b1 && b2, andS_ok h h1 h2, fun w => ?_⟩
    rw [List.range'_succ, eqElems]
    cases b1 <;> simp [hvr, hur, h1r, h2r]
theorem eqT_ok (hT : TOk P tt) : ∀ (n d : Nat), n ≤ d → EqRec P m ν d (eqT (std W) tt n)
  | 0, d, _ => fun t a b r v u h => by simp [eqT] at h
  | n + 1, 0, hd => by omega
  | n + 1, d + 1, hd => fun t a b r v u h ha hb => by
    have ih := eqT_ok hT n d (by omega)
    unfold eqT at h
    split at h
    · rename_i xs ys
      simp only [S.ok] at ha hb
      obtain ⟨vs, rfl, hx⟩ := ha
      obtain ⟨us, rfl, hy⟩ := hb
      cases ht : tt t with
      | none => simp [ht] at h
      | some ti =>
        have hti := hT t ti ht
        have hdesc := hti.desc
        simp only [ht] at h
        split at h
        case isFalse => cases h
        split at h
        · rename_i fs hfs
          simp only [hfs] at hdesc
          obtain ⟨fa, hu, hm, hn, hs⟩ := hdesc
          rw [← hm] at h
          obtain ⟨bb, h1, h2⟩ := eqF_struct hT ih hx hy fa.toList hn h
          refine ⟨bb, h1, fun w => ?_⟩
          have hfo : P.fieldsOf t = fa := by simp [Program.fieldsOf, hu]
          rw [run_equalIn_struct w d t _ _ (by rw [hfo]; exact hu) hs, hfo]
          exact h2 w
        · rename_i len e hfs
          simp only [hfs] at hdesc
          cases hte : tt e with
          | none => simp [hte] at h
          | some te =>
            simp only [hte] at h
            rw [show (0 : Nat) = 0 * te.size by simp] at h
            obtain ⟨bb, h1, h2⟩ := eqF_elems hT ih hx hy e te.size len 0 h
            refine ⟨bb, h1, fun w => ?_⟩
            rw [run_equalIn_arr w d t _ _ hdesc, run_size (hT e te hte), Result.andThen_ok, List.range_eq_range']
            exact h2 w
        · cases h
    · cases ht : tt t with
      | none => simp [ht] at h
      | some ti =>
        simp only [ht] at h
        obtain ⟨bb, h1, h2⟩ := eq1_ok (hT t ti ht) h ha hb
        exact ⟨bb, h1, h2 d⟩
theorem ifO {c : Prop} [Decidable c] {A : Option S} {r : S} (h : (if c then A else none) = some r) : c ∧ A = some r := by
  split at h
  · exact ⟨‹_›, h⟩
  · cases h
theorem isNilSl_of {v : Value} (h : isNilSl v = true) : ∃ n c, v = .slice none n c := by
  unfold isNilSl at h
  split at h
  · exact ⟨_, _, rfl⟩
  · cases h
theorem isNilIf_of {v : Value} (h : isNilIf v = true) : v = .nilIface := by
  unfold isNilIf at h
  split at h
  · rfl
  · cases h
theorem eqAll {t : TypeId} {v u : Value} {b : Bool} (h : ∀ d w, (Op.equalIn (d + 1) t v u).run P w = .ok b w) (w : World) : (Op.equal t v u).run P w = .ok b w := h 9999 w
theorem eqX_ok (hT : TOk P tt) {t : TypeId} {x y r : S} {v u : Value} (h : eqX (std W) tt t x y = some r) (hx : x.ok m ν v) (hy : y.ok m ν u) : ∃ b, r.ok m ν (.bool b) ∧ ∀ w, (Op.equal t v u).run P w = .ok b w := by
  unfold eqX at h
  cases ht : tt t with
  | none => simp [ht] at h
  | some ti =>
    have hti := hT t ti ht
    have hd := hti.desc
    simp only [ht] at h
    split at h
    · rename_i hdd
      simp only [hdd] at hd
      obtain ⟨h0, h1⟩ := ifO h
      simp only [Bool.and_eq_true] at h0
      simp only [Option.some.injEq] at h1
      subst h1
      obtain ⟨n, c, rfl⟩ := isNilSl_of h0.1
      obtain ⟨n2, c2, rfl⟩ := isNilSl_of h0.2
      simp only [S.ok] at hx hy
      subst hx; subst hy
      exact ⟨true, by simp [S.ok], eqAll fun d w => by simp [Op.equalIn, run_underlying hd]⟩
    · rename_i hdd
      simp only [hdd] at hd
      obtain ⟨h0, h1⟩ := ifO h
      simp only [Option.some.injEq] at h1
      subst h1
      obtain ⟨n, c, rfl⟩ := isNilSl_of h0
      simp only [S.ok] at hx hy
      subst hy
      obtain ⟨_, _, _, a, rfl, _⟩ := hx
      exact ⟨false, by simp [S.ok], eqAll fun d w => by simp [Op.equalIn, run_underlying hd]⟩
    · rename_i hdd
      simp only [hdd] at hd
      obtain ⟨h0, h1⟩ := ifO h
      simp only [Option.some.injEq] at h1
      subst h1
      obtain ⟨n, c, rfl⟩ := isNilSl_of h0
      simp only [S.ok] at hx hy
      subst hx
      obtain ⟨_, _, _, a, rfl, _⟩ := hy
      exact ⟨false, by simp [S.ok], eqAll fun d w => by simp [Op.equalIn, run_underlying hd]⟩
    · rename_i hdd
      simp only [hdd] at hd
      obtain ⟨h0, h1⟩ := ifO h
      simp only [Option.some.injEq] at h1
      subst h1
      obtain ⟨n, c, rfl⟩ := isNilSl_of h0
      simp only [S.ok] at hx hy
      subst hy
      rename_i id0 len
      have hz : (std W .B .eq len.z 0 : Bool) = decide (len.val = 0) := by
        have : len.z = (len.val : Int) := by cases len <;> simp [NN.z, NN.val, castI_eq]
        rw [this]
        show stdB .eq _ _ = _
        rw [Bool.eq_iff_iff]
        simp only [stdB, beq_iff_eq, decide_eq_true_eq]
        omega
      rw [hz]
      obtain ⟨_, _, hl, hx⟩ := hx
      have hl := (hl trivial).symm
      rcases hx with ⟨h0, a, c', rfl, ha⟩ | ⟨h0, _, _, rfl⟩
      · obtain ⟨rfl, rfl⟩ := ha trivial
        exact ⟨true, by simp [S.ok, ← hl, h0], eqAll fun d w => by simp [Op.equalIn, run_underlying hd]⟩
      · exact ⟨false, by simp [S.ok, ← hl]; omega, eqAll fun d w => by simp [Op.equalIn, run_underlying hd]⟩
    · rename_i hdd
      simp only [hdd] at hd
      obtain ⟨ms, hd⟩ := hd
      obtain ⟨h0, h1⟩ := ifO h
      simp only [Option.some.injEq] at h1
      subst h1
      obtain rfl := isNilIf_of h0
      simp only [S.ok] at hx hy
      subst hx
      obtain ⟨a, rfl, _⟩ := hy
      exact ⟨false, by simp [S.ok], eqAll fun d w => by simp [Op.equalIn, run_underlying hd]⟩
    · rename_i hdd
      simp only [hdd] at hd
      obtain ⟨ms, hd⟩ := hd
      obtain ⟨h0, h1⟩ := ifO h
      simp only [Option.some.injEq] at h1
      subst h1
      obtain rfl := isNilIf_of h0
      simp only [S.ok] at hx hy
      subst hy
      obtain ⟨a, rfl, _⟩ := hx
      exact ⟨false, by simp [S.ok], eqAll fun d w => by simp [Op.equalIn, run_underlying hd]⟩
    · exact eqT_ok hT 20 10000 (by omega) _ _ _ _ _ _ h hx hy
end
end Go.SX
