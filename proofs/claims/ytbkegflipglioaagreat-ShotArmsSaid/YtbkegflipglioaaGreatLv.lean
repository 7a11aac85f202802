/- A lifted law, called with a list of numbers. -/
import Derived.Test.YtbkegflipglioaaGreatLc
import Derived.Test.YtbkegflipglioaaGreatRdVec
set_option maxRecDepth 20000
namespace Go.SX.Y.Lc
open Go.SX Go.SX.Y Go.RowKit Go.Proofs Go.Proofs.YtbkegflipglioaaGreat
/-- A list's rows. -/
def rowsN (zs : List Nat) : List (List Int) := zs.map fun (x : Nat) => ([(x : Int)] : List Int)
theorem oks_rows (k : IntKind) (m : Nat) (ν : Nat → Env) : ∀ zs : List Nat, S.oks m ν (rowC [.i k] (rowsN zs)) (zs.map fun x => .int k (x : Nat))
  | [] => by simp only [rowsN, List.map_nil, rowC, S.oks]
  | x :: zs => by
    have := oks_rows k m ν zs
    simp only [rowsN, List.map_cons, rowC, recC, kdc, List.cons_append, List.nil_append, S.oks, List.headD_cons, S.ok] at this ⊢
    exact ⟨_, _, rfl, rfl, this⟩
theorem rowsN_nn (zs : List Nat) (i : Nat) : 0 ≤ elI (rowsN zs) i 0 := by
  have h : rowL (rowsN zs) i = [] ∨ ∃ x : Nat, rowL (rowsN zs) i = [(x : Int)] := by
    unfold rowL rowsN
    rw [List.getD_eq_getElem?_getD, List.getElem?_map]
    cases zs[i]? with
    | none => exact Or.inl rfl
    | some x => exact Or.inr ⟨x, rfl⟩
  unfold elI
  rcases h with h | ⟨x, h⟩ <;> rw [h]
  · exact Int.le_refl 0
  · exact Int.natCast_nonneg x
theorem win_ok {k : IntKind} {zs : List Nat} {a : Option Addr} {n cap : Nat} {w : World} (hl : zs.length = n) (hv : Vec w (.slice a n cap) n (zs.map fun x => .int k (x : Nat))) :
    ∃ e : Env, HOk noW w [] (fun _ => e) [.nwin [.i k] (rowsN zs)] w ∧ S.ok 1 (fun _ => e) (.nsl 0 (.v (lenR (rowsN zs))) false true) (.slice a n cap) := by
  obtain ⟨a', cap', h1, h2, h3, h4⟩ := hv
  injection h1 with e1 e2 e3
  subst e1 e3
  have one : ∀ (P : Ob → Prop), P (.nwin [.i k] (rowsN zs)) → ∀ (i : Nat) (o : Ob), [Ob.nwin [.i k] (rowsN zs)][i]? = some o → P o := fun P hp i o ho => by
    cases i with
    | zero => simp only [List.getElem?_cons_zero, Option.some.injEq] at ho; subst ho; exact hp
    | succ i => simp at ho
  have own0 : (Ob.nwin [.i k] (rowsN zs)).own = false := rfl
  have ll : lenR (rowsN zs) = n := by unfold lenR rowsN; rw [List.length_map]; exact hl
  cases zs with
  | nil =>
    have n0 : n = 0 := by simpa using hl.symm
    subst n0
    refine ⟨⟨0, 0, 0, 0⟩, ⟨Upd.refl _ _, ?_, ?_, ?_, ?_, ?_⟩, ?_⟩
    · exact fun i o ho => one (fun o => o.holds 1 _ _ w) ⟨rfl, trivial⟩ i o ho
    · exact fun i o ho => one (fun o => o.own = true → _) (fun h => by cases h) i o ho
    · exact fun i j o o' _ ho _ hw _ => by have := one (fun o => o.own = false) own0 i o ho; rw [this] at hw; cases hw
    · exact fun i o ho => one (fun o => o.isW = true → _) (fun h => by cases h) i o ho
    · intro b o m cs h; cases h
    · simp only [S.ok]
      exact ⟨by omega, Nat.le_refl _, fun _ => rfl, Or.inl ⟨trivial, a, cap, rfl, fun h => by cases h⟩⟩
  | cons x zs =>
    rcases h4 with h4 | ⟨b, o, rfl, hb, hc⟩
    · simp at h4
    refine ⟨⟨b, o, cap, n⟩, ⟨Upd.refl _ _, ?_, ?_, ?_, ?_, ?_⟩, ?_⟩
    · exact fun i ob ho => one (fun ob => ob.holds 1 _ _ w) ⟨by simpa [rowsN] using hl.symm, _, oks_rows k 1 _ (x :: zs), hc⟩ i ob ho
    · exact fun i ob ho => one (fun ob => ob.own = true → _) (fun h => by cases h) i ob ho
    · exact fun i j ob o' _ ho _ hw _ => by have := one (fun ob => ob.own = false) own0 i ob ho; rw [this] at hw; cases hw
    · exact fun i ob ho => one (fun ob => ob.isW = true → _) (fun _ => ⟨hb, by simp⟩) i ob ho
    · intro b o m cs h; cases h
    · simp only [S.ok]
      have np : 0 < n := by rw [← hl]; simp
      have ll2 : NN.val (.v (lenR (rowsN (x :: zs)))) = n := ll
      rw [ll2]
      exact ⟨by omega, Nat.le_refl _, fun _ => rfl, Or.inr ⟨np, h2, h3, rfl⟩⟩
theorem lift_callsH {f : FuncId} {args : List S} {h : List Ob} {fi : FI} (hf : ffB f = some fi) (hs : CallSem noW Tryz.prog f args h yesK) (vs : List Value) {ν : Nat → Env} {w : World} (H : HOk noW w [] ν h w) (hv : oks h.length ν args vs) :
    Calls Tryz.prog f vs.toArray w fun e w' => e = .returned (.bool true) ∧ Below w.heap.size w w' := by
  rcases hs w w [] _ vs H hv with ⟨_, hc⟩ | ⟨v, w', h1, _⟩
  · refine hc.mono ?_
    rintro e w' ⟨v, rfl, s, h', ν', hs, _, _, hok, hv⟩
    cases s <;> simp only [yesK] at hs
    case bl b => subst hs; simp only [S.ok] at hv; subst hv; exact ⟨rfl, hok.upd.toBelow⟩
    case bv b => subst hs; simp only [S.ok] at hv; subst hv; exact ⟨rfl, hok.upd.toBelow⟩
  · obtain ⟨fn, c, _, _, _, _, _, h6⟩ := ffBok f fi hf
    rw [h6] at h1
    cases h1
end Go.SX.Y.Lc
