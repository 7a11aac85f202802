/- Tapes, parsed: plain arithmetic. -/
import Derived.Test.YtdmdnijgjgjmkaaProg
import Derived.Test.YtdmdnijgjgjmkaaNumP
import Derived.Test.YtdmdnijgjgjmkaaTapeP
set_option maxRecDepth 20000
namespace Go.Proofs.Ytdmdnijgjgjmkaa

/-- The next number, at most g, and the bytes behind it; or the error. -/
def takeP (g great : Nat) (d : List Nat) : Except Nat (Nat × List Nat) :=
  if (getN d).2.2 = 0 then (if g < (getN d).1 then .error great else .ok ((getN d).1, d.drop (getN d).2.1)) else .error (getN d).2.2
def bnd {α β : Type} (x : Except Nat α) (f : α → Except Nat β) : Except Nat β := match x with | .error e => .error e | .ok a => f a
theorem bnd_ok {α β : Type} (a : α) (f : α → Except Nat β) : bnd (.ok a) f = f a := rfl
theorem bnd_error {α β : Type} (e : Nat) (f : α → Except Nat β) : bnd (.error e) f = .error e := rfl
theorem bnd_bnd {α β γ : Type} (x : Except Nat α) (f : α → Except Nat β) (g : β → Except Nat γ) : bnd (bnd x f) g = bnd x fun a => bnd (f a) g := by cases x <;> rfl
/-- m numbers. -/
def takes (g great : Nat) : Nat → List Nat → Except Nat (List Nat × List Nat)
  | 0, d => .ok ([], d)
  | m + 1, d => bnd (takeP g great d) fun x => bnd (takes g great m x.2) fun y => .ok (x.1 :: y.1, y.2)
/-- An operation. -/
def opP (d : List Nat) : Except Nat ((Nat × List Nat) × List Nat) :=
  bnd (takeP 18446744073709551615 9 d) fun k => bnd (takeP 1048576 6 k.2) fun n => bnd (takes 18446744073709551615 5 n.1 n.2) fun y =>
    if chk (k.1 : Nat) y.1 = 0 then .ok ((k.1, y.1), y.2) else .error (chk (k.1 : Nat) y.1)
/-- m operations. -/
def opsP : Nat → List Nat → Except Nat (List (Nat × List Nat) × List Nat)
  | 0, d => .ok ([], d)
  | m + 1, d => bnd (opP d) fun x => bnd (opsP m x.2) fun y => .ok (x.1 :: y.1, y.2)
/-- What is wrong with a head of numbers. -/
def numsChk (xs : List Nat) : Int := headChk (xs.getD 0 0 : Nat) (xs.getD 1 0 : Nat) (xs.getD 2 0 : Nat) (xs.getD 3 0 : Nat) (xs.getD 4 0 : Nat)
/-- A tape. -/
def parseP (d : List Nat) : Except Nat (List Nat × List (Nat × List Nat)) :=
  if d = [] ∨ d.getD 0 0 ≠ 84 then .error 3 else
  bnd (takes 4294967295 5 5 (d.drop 1)) fun x => if numsChk x.1 ≠ 0 then .error 5 else
  bnd (takeP 1048576 6 x.2) fun n => bnd (opsP n.1 n.2) fun y => if y.2 ≠ [] then .error 3 else .ok (x.1, y.1)

/-! Bytes that were put are taken. -/
theorem takeP_put (g great n : Nat) (r : List Nat) (hn : n < 18446744073709551616) (hg : n ≤ g) : takeP g great (putOne n ++ r) = .ok (n, r) := by
  unfold takeP
  rw [getN_put n r hn, if_pos rfl, if_neg (by simp; omega)]
  simp
theorem takes_put (g great : Nat) : ∀ (zs r : List Nat), (∀ z ∈ zs, z < 18446744073709551616 ∧ z ≤ g) → takes g great zs.length (putAll zs ++ r) = .ok (zs, r) := by
  intro zs
  induction zs with
  | nil => intro r _; rfl
  | cons z zs ih =>
    intro r h
    have e : putAll (z :: zs) ++ r = putOne z ++ (putAll zs ++ r) := by simp [putAll]
    rw [List.length_cons, takes, e, takeP_put g great z _ (h z (by simp)).1 (h z (by simp)).2, bnd_ok, ih r fun x hx => h x (by simp [hx]), bnd_ok]
theorem opP_put (k : Nat) (ns r : List Nat) (hk : k < 18446744073709551616) (hn : ∀ x ∈ ns, x < 18446744073709551616) (hl : ns.length ≤ 1048576) :
    opP (putAll (k :: ns.length :: ns) ++ r) = if chk (k : Nat) ns = 0 then .ok ((k, ns), r) else .error (chk (k : Nat) ns) := by
  have e : putAll (k :: ns.length :: ns) ++ r = putOne k ++ (putOne ns.length ++ (putAll ns ++ r)) := by simp [putAll]
  unfold opP
  rw [e, takeP_put _ _ _ _ hk (by omega), bnd_ok, takeP_put _ _ _ _ (by omega) hl, bnd_ok, takes_put _ _ ns r fun x hx => ⟨hn x hx, by have := hn x hx; omega⟩, bnd_ok]
theorem opsP_put (os : List (Nat × List Nat)) (r : List Nat) (h : ∀ o ∈ os, o.1 < 18446744073709551616 ∧ (∀ x ∈ o.2, x < 18446744073709551616) ∧ o.2.length ≤ 1048576 ∧ chk (o.1 : Nat) o.2 = 0) :
    opsP os.length (putAll (os.flatMap fun o => o.1 :: o.2.length :: o.2) ++ r) = .ok (os, r) := by
  induction os with
  | nil => rfl
  | cons o os ih =>
    obtain ⟨h1, h2, h3, h4⟩ := h o (by simp)
    rw [List.length_cons, opsP, List.flatMap_cons, putAll_append, List.append_assoc, opP_put o.1 o.2 _ h1 h2 h3, if_pos h4, bnd_ok, ih fun x hx => h x (by simp [hx]), bnd_ok]
theorem parseP_put (hs : List Nat) (os : List (Nat × List Nat)) (r : List Nat) (hl : hs.length = 5) (hh : ∀ x ∈ hs, x ≤ 4294967295) (hc : numsChk hs = 0) (hm : os.length ≤ 1048576)
    (h : ∀ o ∈ os, o.1 < 18446744073709551616 ∧ (∀ x ∈ o.2, x < 18446744073709551616) ∧ o.2.length ≤ 1048576 ∧ chk (o.1 : Nat) o.2 = 0) :
    parseP (84 :: putAll (hs ++ [os.length] ++ os.flatMap fun o => o.1 :: o.2.length :: o.2) ++ r) = if r = [] then .ok (hs, os) else .error 3 := by
  have e : putAll (hs ++ [os.length] ++ os.flatMap fun o => o.1 :: o.2.length :: o.2) ++ r = putAll hs ++ (putOne os.length ++ (putAll (os.flatMap fun o => o.1 :: o.2.length :: o.2) ++ r)) := by
    rw [putAll_append, putAll_append]; simp [putAll]
  unfold parseP
  rw [if_neg (by simp), List.cons_append, List.drop_succ_cons, List.drop_zero, e, ← hl, takes_put _ _ hs _ fun x hx => by have := hh x hx; omega, bnd_ok]
  simp only [hc]
  rw [if_neg (by simp), takeP_put _ _ _ _ (by omega) hm, bnd_ok, opsP_put os r h, bnd_ok]
  by_cases hr : r = [] <;> simp [hr]

/-! What was taken is what was put. -/
theorem takeP_ok {g great n : Nat} {d r : List Nat} (hb : ∀ x ∈ d, x < 256) (h : takeP g great d = .ok (n, r)) : d = putOne n ++ r ∧ n ≤ g ∧ n < 18446744073709551616 := by
  unfold takeP at h
  split at h
  · rename_i h0
    obtain ⟨h1, h2, h3, h4⟩ := getN_ok hb h0
    split at h
    · cases h
    · simp only [Except.ok.injEq, Prod.mk.injEq] at h
      obtain ⟨rfl, rfl⟩ := h
      exact ⟨by rw [h4, List.take_append_drop], by omega, h3⟩
  · cases h
theorem takes_ok {g great : Nat} : ∀ (m : Nat) {d xs r : List Nat}, (∀ x ∈ d, x < 256) → takes g great m d = .ok (xs, r) → d = putAll xs ++ r ∧ xs.length = m ∧ ∀ x ∈ xs, x ≤ g ∧ x < 18446744073709551616 := by
  intro m
  induction m with
  | zero => intro d xs r _ h; simp only [takes, Except.ok.injEq, Prod.mk.injEq] at h; obtain ⟨rfl, rfl⟩ := h; simp [putAll]
  | succ m ih =>
    intro d xs r hb h
    rw [takes] at h
    cases h1 : takeP g great d with
    | error e => rw [h1] at h; cases h
    | ok x =>
      obtain ⟨n, d1⟩ := x
      rw [h1, bnd_ok] at h
      obtain ⟨rfl, h2, h3⟩ := takeP_ok hb h1
      cases h4 : takes g great m d1 with
      | error e => simp only [h4] at h; cases h
      | ok y =>
        obtain ⟨ys, d2⟩ := y
        simp only [h4, bnd_ok, Except.ok.injEq, Prod.mk.injEq] at h
        obtain ⟨rfl, rfl⟩ := h
        obtain ⟨rfl, h5, h6⟩ := ih (fun x hx => hb x (by simp [hx])) h4
        refine ⟨by simp [putAll], by simp [h5], fun x hx => ?_⟩
        rcases List.mem_cons.1 hx with rfl | hx
        · exact ⟨h2, h3⟩
        · exact h6 x hx
theorem opP_ok {d r : List Nat} {o : Nat × List Nat} (hb : ∀ x ∈ d, x < 256) (h : opP d = .ok (o, r)) : d = putAll (o.1 :: o.2.length :: o.2) ++ r ∧ chk (o.1 : Nat) o.2 = 0 ∧ o.1 < 18446744073709551616 ∧ ∀ x ∈ o.2, x < 18446744073709551616 := by
  unfold opP at h
  cases h1 : takeP 18446744073709551615 9 d with
  | error e => rw [h1] at h; cases h
  | ok x =>
    obtain ⟨k, d1⟩ := x
    rw [h1, bnd_ok] at h
    obtain ⟨rfl, _, hk⟩ := takeP_ok hb h1
    have hb1 : ∀ x ∈ d1, x < 256 := fun x hx => hb x (by simp [hx])
    cases h2 : takeP 1048576 6 d1 with
    | error e => simp only [h2] at h; cases h
    | ok y =>
      obtain ⟨n, d2⟩ := y
      simp only [h2, bnd_ok] at h
      obtain ⟨rfl, _, hn⟩ := takeP_ok hb1 h2
      cases h3 : takes 18446744073709551615 5 n d2 with
      | error e => simp only [h3] at h; cases h
      | ok z =>
        obtain ⟨ns, d3⟩ := z
        simp only [h3, bnd_ok] at h
        obtain ⟨rfl, hl, hx⟩ := takes_ok n (fun x hx => hb1 x (by simp [hx])) h3
        split at h
        · rename_i hc
          simp only [Except.ok.injEq, Prod.mk.injEq] at h
          obtain ⟨rfl, rfl⟩ := h
          exact ⟨by simp [putAll, hl], hc, hk, fun x h => (hx x h).2⟩
        · cases h
theorem opsP_ok : ∀ (m : Nat) {d r : List Nat} {os : List (Nat × List Nat)}, (∀ x ∈ d, x < 256) → opsP m d = .ok (os, r) →
    d = putAll (os.flatMap fun o => o.1 :: o.2.length :: o.2) ++ r ∧ os.length = m ∧ ∀ o ∈ os, chk (o.1 : Nat) o.2 = 0 ∧ o.1 < 18446744073709551616 ∧ ∀ x ∈ o.2, x < 18446744073709551616 := by
  intro m
  induction m with
  | zero => intro d r os _ h; simp only [opsP, Except.ok.injEq, Prod.mk.injEq] at h; obtain ⟨rfl, rfl⟩ := h; simp [putAll]
  | succ m ih =>
    intro d r os hb h
    rw [opsP] at h
    cases h1 : opP d with
    | error e => rw [h1] at h; cases h
    | ok x =>
      obtain ⟨o, d1⟩ := x
      rw [h1, bnd_ok] at h
      obtain ⟨rfl, h2, h3, h4⟩ := opP_ok hb h1
      cases h5 : opsP m d1 with
      | error e => simp only [h5] at h; cases h
      | ok y =>
        obtain ⟨ps, d2⟩ := y
        simp only [h5, bnd_ok, Except.ok.injEq, Prod.mk.injEq] at h
        obtain ⟨rfl, rfl⟩ := h
        obtain ⟨rfl, h6, h7⟩ := ih (fun x hx => hb x (by simp [hx])) h5
        refine ⟨by rw [List.flatMap_cons, putAll_append, List.append_assoc], by simp [h6], fun x hx => ?_⟩
        rcases List.mem_cons.1 hx with rfl | hx
        · exact ⟨h2, h3, h4⟩
        · exact h7 x hx
theorem parseP_ok {d hs : List Nat} {os : List (Nat × List Nat)} (hb : ∀ x ∈ d, x < 256) (h : parseP d = .ok (hs, os)) :
    d = 84 :: putAll (hs ++ [os.length] ++ os.flatMap fun o => o.1 :: o.2.length :: o.2) ∧ hs.length = 5 ∧ (∀ x ∈ hs, x ≤ 4294967295) ∧ numsChk hs = 0 ∧ os.length ≤ 1048576 ∧ ∀ o ∈ os, chk (o.1 : Nat) o.2 = 0 ∧ o.1 < 18446744073709551616 ∧ ∀ x ∈ o.2, x < 18446744073709551616 := by
  unfold parseP at h
  split at h
  · cases h
  rename_i h0
  cases d with
  | nil => simp at h0
  | cons c d =>
    have hc : c = 84 := by simpa [List.getD] using h0
    subst hc
    rw [List.drop_succ_cons, List.drop_zero] at h
    have hb0 : ∀ x ∈ d, x < 256 := fun x hx => hb x (by simp [hx])
    cases h1 : takes 4294967295 5 5 d with
    | error e => rw [h1] at h; cases h
    | ok x =>
      obtain ⟨xs, d1⟩ := x
      rw [h1, bnd_ok] at h
      obtain ⟨rfl, h2, h3⟩ := takes_ok 5 hb0 h1
      simp only at h
      split at h
      · cases h
      rename_i h4
      have hb1 : ∀ x ∈ d1, x < 256 := fun x hx => hb0 x (by simp [hx])
      cases h5 : takeP 1048576 6 d1 with
      | error e => rw [h5] at h; cases h
      | ok y =>
        obtain ⟨n, d2⟩ := y
        rw [h5, bnd_ok] at h
        obtain ⟨rfl, h6, _⟩ := takeP_ok hb1 h5
        cases h7 : opsP n d2 with
        | error e => simp only [h7] at h; cases h
        | ok z =>
          obtain ⟨ps, d3⟩ := z
          simp only [h7, bnd_ok] at h
          obtain ⟨rfl, h8, h9⟩ := opsP_ok n (fun x hx => hb1 x (by simp [hx])) h7
          split at h
          · cases h
          · rename_i h10
            have hd3 : d3 = [] := by simpa using h10
            subst hd3
            simp only [Except.ok.injEq, Prod.mk.injEq] at h
            obtain ⟨rfl, rfl⟩ := h
            refine ⟨?_, h2, fun x hx => (h3 x hx).1, by simpa using h4, by omega, h9⟩
            rw [putAll_append, putAll_append]
            simp [putAll, h8]
end Go.Proofs.Ytdmdnijgjgjmkaa
