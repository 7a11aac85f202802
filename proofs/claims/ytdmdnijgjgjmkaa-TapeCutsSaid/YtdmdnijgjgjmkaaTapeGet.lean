/- tape.Get: the number that bytes begin with. -/
import Derived.Test.YtdmdnijgjgjmkaaProg
import Derived.Test.YtdmdnijgjgjmkaaTapePut
set_option maxRecDepth 20000
namespace Go.Proofs.Ytdmdnijgjgjmkaa
open Go.RowKit

/-- How many bytes at the head (of at most ten) have their highest bit. -/
def lead : Nat → List Nat → Nat
  | 0, _ => 0
  | _ + 1, [] => 0
  | k + 1, x :: r => if 128 ≤ x then lead k r + 1 else 0
/-- The value of the first m bytes. -/
def pv (l : List Nat) : Nat → Nat
  | 0 => 0
  | m + 1 => pv l m + (l.getD m 0 % 128) * 128 ^ m
/-- The number that bytes begin with, how many bytes it has, the error. -/
def getN (l : List Nat) : Nat × Nat × Nat :=
  if lead 10 l = 10 then (0, 0, 3) else if l.length ≤ lead 10 l then (0, 0, 4)
  else if (0 < lead 10 l ∧ l.getD (lead 10 l) 0 = 0) ∨ 18446744073709551616 ≤ pv l (lead 10 l + 1) then (0, 0, 3)
  else (pv l (lead 10 l + 1), lead 10 l + 1, 0)


theorem lead_le : ∀ (f : Nat) (l : List Nat), lead f l ≤ f ∧ lead f l ≤ l.length := by
  intro f
  induction f with
  | zero => intro l; simp [lead]
  | succ f ih =>
    intro l
    cases l with
    | nil => simp [lead]
    | cons x r => have := ih r; simp only [lead]; split <;> simp <;> omega
theorem lead_next : ∀ (i f : Nat) (l : List Nat) (hl : i < l.length), i < f → i ≤ lead f l → (128 ≤ l[i] → i + 1 ≤ lead f l) ∧ (l[i] < 128 → lead f l = i) := by
  intro i
  induction i with
  | zero =>
    intro f l hl hf _
    obtain ⟨f, rfl⟩ : ∃ g, f = g + 1 := ⟨f - 1, by omega⟩
    cases l with
    | nil => simp at hl
    | cons x r => simp only [lead, List.getElem_cons_zero]; constructor <;> intro h <;> split <;> omega
  | succ i ih =>
    intro f l hl hf hle
    obtain ⟨f, rfl⟩ : ∃ g, f = g + 1 := ⟨f - 1, by omega⟩
    cases l with
    | nil => simp at hl
    | cons x r =>
      simp only [lead] at hle
      split at hle
      · rename_i hx
        have := ih f r (by simpa using hl) (by omega) (by omega)
        simp only [lead, List.getElem_cons_succ, if_pos hx]
        constructor <;> intro h
        · have := this.1 h; omega
        · have := this.2 h; omega
      · omega
theorem pv_lt (l : List Nat) : ∀ m, pv l m < 128 ^ m := by
  intro m
  induction m with
  | zero => simp [pv]
  | succ m ih =>
    simp only [pv, Nat.pow_succ]
    have h1 : l.getD m 0 % 128 ≤ 127 := by omega
    have h2 := Nat.mul_le_mul_right (128 ^ m) h1
    omega
/-- A part of seven bits, laid at its place, in 64 bits. -/
theorem part_fits {k p x : Nat} (hk : k < 10) (hp : p < 128) (hx : x < 128 ^ k) :
    (p * 128 ^ k % 18446744073709551616 / 128 ^ k = p ↔ ¬ 18446744073709551616 ≤ x + p * 128 ^ k) ∧ (¬ 18446744073709551616 ≤ x + p * 128 ^ k → p * 128 ^ k % 18446744073709551616 = p * 128 ^ k) := by
  have hc : k = 0 ∨ k = 1 ∨ k = 2 ∨ k = 3 ∨ k = 4 ∨ k = 5 ∨ k = 6 ∨ k = 7 ∨ k = 8 ∨ k = 9 := by omega
  rcases hc with h | h | h | h | h | h | h | h | h | h <;> subst h <;> simp only [Nat.reducePow] at * <;> constructor <;> omega
theorem and127 {n : Nat} (h : n < 256) : bits .and .u8 (n : Int) 127 = ((n % 128 : Nat) : Int) := by
  rw [show (127 : Int) = ((127 : Nat) : Int) from rfl, (bits_nat .u8 8 (by decide) wraps_u8 n 127 (by simpa using h) (by decide)).1]
  exact congrArg _ (Nat.and_two_pow_sub_one_eq_mod n 7)
theorem wraps_u64' (n : Int) (h₀ : 0 ≤ n) (h₁ : n < 2 ^ 64) : IntKind.u64.wrap n = n := by simp [IntKind.wrap, IntKind.bits, IntKind.signed]; omega
theorem or_apart {k x q : Nat} (hk : k < 10) (hx : x < 128 ^ k) (hq : q < 18446744073709551616) (hd : 128 ^ k ∣ q) : bits .or .u64 (x : Int) (q : Int) = ((x + q : Nat) : Int) := by
  have hx' : x < 2 ^ 64 := by
    have : 128 ^ k ≤ 128 ^ 9 := Nat.pow_le_pow_right (by decide) (by omega)
    have : (128 ^ 9 : Nat) < 2 ^ 64 := by decide
    omega
  rw [(bits_nat .u64 64 (by decide) wraps_u64' x q hx' (by simpa using hq)).2]
  obtain ⟨c, rfl⟩ := hd
  have e : (128 : Nat) ^ k = 2 ^ (7 * k) := by rw [Nat.pow_mul]
  rw [e] at hx ⊢
  rw [Nat.add_comm, Nat.two_pow_add_eq_or_of_lt hx, Nat.or_comm]
theorem getD_at {l : List Nat} {k : Nat} (h : k < l.length) : l.getD k 0 = l[k] := by simp [List.getD, h]

theorem tape_get (v : Value) (l : List Nat) (w : World) (hb : ∀ n ∈ l, n < 256) (hv : Vec w v l.length (bys l)) :
    Calls Try.prog 27 #[v] w fun e w' => e = .returned (.tuple #[.int .u64 ((getN l).1 : Nat), .int .i64 ((getN l).2.1 : Nat), .int .i64 ((getN l).2.2 : Nat)]) ∧ Upd [] w w' := by
  obtain ⟨a, cap, rfl, hcap, hmax, hcell⟩ := hv
  go_enter Try.func27, Try.ntmps27
  go_wp2_with fail
  go_loopw [5, 8] (fun n i wr => ∃ (k x : Nat), i = .int .i64 k ∧ n = .int .u64 x ∧ k ≤ 10 ∧ k ≤ lead 10 l ∧ k ≤ l.length ∧ (k < 10 → x = pv l k) ∧ wr = w) (fun _ i _ => 10 - (intOf i).toNat)
  case atStart => exact ⟨0, 0, rfl, rfl, by omega, by omega, by omega, fun _ => rfl, rfl⟩
  case round =>
    obtain ⟨k, x, rfl, rfl, hk10, hkl, hkn, hx, rfl⟩ := hrel
    by_cases hlt : k < 10
    · by_cases hin : k < l.length
      · rcases hcell with h0 | ⟨b, o, rfl, hbk, hc⟩
        · have := congrArg List.length h0; simp only [bys, List.length_map, List.length_nil] at this; omega
        have hck : wr.cell? ⟨b, o + k, none⟩ = some (.int .u8 (l[k] : Nat)) := hc k _ (by simp [bys, hin])
        have hkc : k < cap := Nat.lt_of_lt_of_le hin hcap
        have hw : IntKind.i64.wrap (7 * (k : Int)) = 7 * k := by simp [IntKind.wrap, IntKind.bits, IntKind.signed]; omega
        have hx' := hx hlt
        have h256 : l[k] < 256 := hb _ (List.getElem_mem hin)
        obtain ⟨hmore, hlast⟩ := lead_next k 10 l hin hlt hkl
        have hxp : x < 128 ^ k := by rw [hx']; exact pv_lt l k
        have hpv : pv l (k + 1) = x + l[k] % 128 * 128 ^ k := by rw [pv, ← hx', getD_at hin]
        have hG : l[k] < 128 → getN l = if (0 < k ∧ l[k] = 0) ∨ 18446744073709551616 ≤ x + l[k] % 128 * 128 ^ k then (0, 0, 3) else (x + l[k] % 128 * 128 ^ k, k + 1, 0) := by
          intro h
          unfold getN
          rw [hlast h, if_neg (by omega), if_neg (by omega), hpv, getD_at hin]
        have hA := and127 h256
        generalize hyk : l[k] = y at hck h256 hmore hlast hpv hG hA
        obtain ⟨hfit, hfit2⟩ := part_fits (p := y % 128) hlt (by omega) hxp
        generalize hp : y % 128 = p at hfit hfit2 hpv hG hA
        have hB : IntKind.u64.wrap (p : Int) = p := by simp [IntKind.wrap, IntKind.bits, IntKind.signed]; omega
        have hC : IntKind.u64.wrap ((p : Int) * 2 ^ (7 * k)) = ((p * 128 ^ k % 18446744073709551616 : Nat) : Int) := by
          have e : (2 : Int) ^ (7 * k) = ((128 ^ k : Nat) : Int) := by rw [Int.pow_mul]; simp
          rw [e]; simp [IntKind.wrap, IntKind.bits, IntKind.signed]
        have hq : p * 128 ^ k % 18446744073709551616 < 18446744073709551616 := Nat.mod_lt _ (by decide)
        have hdv : 128 ^ k ∣ p * 128 ^ k % 18446744073709551616 := by
          refine (Nat.dvd_mod_iff ?_).2 (Nat.dvd_mul_left _ _)
          have e : (18446744073709551616 : Nat) = 128 ^ k * (2 ^ (64 - 7 * k)) := by
            have : (128 : Nat) ^ k = 2 ^ (7 * k) := by rw [Nat.pow_mul]
            rw [this, ← Nat.pow_add, show 7 * k + (64 - 7 * k) = 64 by omega]
          exact ⟨_, e⟩
        have hD := or_apart hlt hxp hq hdv
        have hE : ((p * 128 ^ k % 18446744073709551616 : Nat) : Int) / 2 ^ (7 * k) = ((p * 128 ^ k % 18446744073709551616 / 128 ^ k : Nat) : Int) := by
          have e : (2 : Int) ^ (7 * k) = ((128 ^ k : Nat) : Int) := by rw [Int.pow_mul]; simp
          rw [e]; simp
        have hq' : Held (p * 128 ^ k % 18446744073709551616 = p * 128 ^ k ∨ 18446744073709551616 ≤ x + p * 128 ^ k) := ⟨by by_cases h : 18446744073709551616 ≤ x + p * 128 ^ k; exact Or.inr h; exact Or.inl (hfit2 h)⟩
        generalize p * 128 ^ k % 18446744073709551616 = q at *
        have hfit' : Held (q / 128 ^ k = p ↔ ¬18446744073709551616 ≤ x + p * 128 ^ k) := ⟨hfit⟩
        generalize q / 128 ^ k = r at *
        clear hfit hfit2 hq hdv hc hxp hb
        have hG' : Held (y < 128 → getN l = if 0 < k ∧ y = 0 ∨ 18446744073709551616 ≤ x + p * 128 ^ k then (0, 0, 3) else (x + p * 128 ^ k, k + 1, 0)) := ⟨hG⟩
        have hpv' : Held (pv l (k + 1) = x + p * 128 ^ k) := ⟨hpv⟩
        have hx'' : Held (x = pv l k) := ⟨hx'⟩
        have hm' : Held (128 ≤ y → k + 1 ≤ lead 10 l) := ⟨hmore⟩
        have hp' : Held (y % 128 = p) := ⟨hp⟩
        clear hG hpv hx hx' hmore hlast hp hyk
        go_wp2_with fail
        case roundEnd =>
          have h128 : 128 ≤ y := by omega
          refine ⟨⟨k + 1, x + q, by simp, by simp, by omega, hm'.out h128, by omega, fun hk => ?_, trivial⟩, ?_⟩
          · rw [hpv'.out]
            rcases hq'.out with h1 | h1
            · rw [h1]
            · exfalso
              have : pv l (k + 1) < 128 ^ (k + 1) := pv_lt _ _
              rw [hpv'.out] at this
              have : 128 ^ (k + 1) ≤ 128 ^ 9 := Nat.pow_le_pow_right (by decide) (by omega)
              have : (128 ^ 9 : Nat) < 18446744073709551616 := by decide
              omega
          · simp only [intOf]; omega
        all_goals
          go_ret3
          rw [hG'.out (by omega)]
          try simp only [beq_iff_eq, bne_iff_ne, ne_eq, beq_eq_false_iff_ne, bne_eq_false_iff_eq] at *
          have h1 := hq'.out
          have h2 := hfit'.out
          have h3 := hp'.out
          first
          | rw [if_neg (show ¬ (0 < k ∧ y = 0 ∨ 18446744073709551616 ≤ x + p * 128 ^ k) by omega)]
            have h4 : q = p * 128 ^ k := by omega
            rw [← h4]; exact ⟨by simp, Upd.refl _ _⟩
          | rw [if_pos (show (0 < k ∧ y = 0 ∨ 18446744073709551616 ≤ x + p * 128 ^ k) by omega)]; exact ⟨rfl, Upd.refl _ _⟩
      · have hG : getN l = (0, 0, 4) := by
          have := (lead_le 10 l).2
          unfold getN
          rw [if_neg (by omega), if_pos (by omega)]
        clear hx hcell hb
        go_wp2_with fail
        all_goals
          go_ret3
          rw [hG]
          exact ⟨rfl, Upd.refl _ _⟩
    · have hG : getN l = (0, 0, 3) := by
        have := (lead_le 10 l).1
        unfold getN
        rw [if_pos (by omega)]
      clear hx hcell hb
      have hk : k = 10 := by omega
      subst hk
      go_wp2_with fail
      all_goals
        go_ret3
        rw [hG]
        exact ⟨rfl, Upd.refl _ _⟩

end Go.Proofs.Ytdmdnijgjgjmkaa
