/- SX: operations that touch no memory. -/
import Derived.Test.YtbkegflipglioaaGreatSX6
namespace Go.SX
open Go.RowKit
/-- Values that '==' compares by their types. -/
def Fits (v u : Value) : Prop := (∃ a b, v = .bool a ∧ u = .bool b) ∨ (∃ a b, v = .pointer a ∧ u = .pointer b) ∨ (∃ a b, v = .agg a ∧ u = .agg b) ∨ (∃ a b c d e f, v = .slice a b c ∧ u = .slice d e f) ∨ (∃ a b, v = .iface a b ∧ u = .nilIface) ∨ (∃ a b, v = .nilIface ∧ u = .iface a b)
def NotNum (x y : S) : Prop := (∀ k a k' b, x = .il k a → y = .il k' b → False) ∧ (∀ k a k' b, x = .il k a → y = .iv k' b → False) ∧ (∀ k a k' b, x = .iv k a → y = .il k' b → False) ∧ (∀ k a k' b, x = .iv k a → y = .iv k' b → False) ∧ (∀ a b, x = .tl a → y = .tl b → False)
section
variable {W : Addr → Nat → Nat → Option (List S)}
variable {P : Program} {tt : Nat → Option TI} {m : Nat} {ν : Nat → Env} {K : S → Prop}
theorem someK_iff {x : Option S} (h : someK x K) : ∃ s, x = some s ∧ K s := by
  unfold someK at h
  split at h
  · exact ⟨_, rfl, h⟩
  · exact h.elim
theorem eq1_fit {d : TD} {x y r : S} {v u : Value} (hn : NotNum x y) (h : eq1 (std W) d x y = some r) (hx : x.ok m ν v) (hy : y.ok m ν u) : Fits v u := by
  obtain ⟨n1, n2, n3, n4, n5⟩ := hn
  unfold eq1 at h
  split at h
  · exact (n1 _ _ _ _ rfl rfl).elim
  · exact (n2 _ _ _ _ rfl rfl).elim
  · exact (n3 _ _ _ _ rfl rfl).elim
  · exact (n4 _ _ _ _ rfl rfl).elim
  · simp only [S.ok] at hx hy; subst hx; subst hy; exact Or.inl ⟨_, _, rfl, rfl⟩
  · simp only [S.ok] at hx hy; subst hx; subst hy; exact Or.inl ⟨_, _, rfl, rfl⟩
  · simp only [S.ok] at hx hy; subst hx; subst hy; exact Or.inl ⟨_, _, rfl, rfl⟩
  · simp only [S.ok] at hx hy; subst hx; subst hy; exact Or.inl ⟨_, _, rfl, rfl⟩
  · exact (n5 _ _ rfl rfl).elim
  · simp only [S.ok] at hx hy; subst hx; subst hy; exact Or.inr (Or.inl ⟨_, _, rfl, rfl⟩)
  · simp only [S.ok] at hx hy; subst hx; obtain ⟨_, rfl⟩ := hy; exact Or.inr (Or.inl ⟨_, _, rfl, rfl⟩)
  · simp only [S.ok] at hx hy; obtain ⟨_, rfl⟩ := hx; subst hy; exact Or.inr (Or.inl ⟨_, _, rfl, rfl⟩)
  · cases h
theorem eqX_fit {t : TypeId} {x y r : S} {v u : Value} (hn : NotNum x y) (h : eqX (std W) tt t x y = some r) (hx : x.ok m ν v) (hy : y.ok m ν u) : Fits v u := by
  unfold eqX at h
  cases ht : tt t with
  | none => simp [ht] at h
  | some ti =>
    simp only [ht] at h
    split at h
    · obtain ⟨h0, _⟩ := ifO h
      simp only [Bool.and_eq_true] at h0
      obtain ⟨n, c, rfl⟩ := isNilSl_of h0.1
      obtain ⟨n2, c2, rfl⟩ := isNilSl_of h0.2
      simp only [S.ok] at hx hy; subst hx; subst hy
      exact Or.inr (Or.inr (Or.inr (Or.inl ⟨_, _, _, _, _, _, rfl, rfl⟩)))
    · obtain ⟨h0, _⟩ := ifO h
      obtain ⟨n, c, rfl⟩ := isNilSl_of h0
      simp only [S.ok] at hx hy; subst hy; obtain ⟨_, _, _, a, rfl, _⟩ := hx
      exact Or.inr (Or.inr (Or.inr (Or.inl ⟨_, _, _, _, _, _, rfl, rfl⟩)))
    · obtain ⟨h0, _⟩ := ifO h
      obtain ⟨n, c, rfl⟩ := isNilSl_of h0
      simp only [S.ok] at hx hy; subst hx; obtain ⟨_, _, _, a, rfl, _⟩ := hy
      exact Or.inr (Or.inr (Or.inr (Or.inl ⟨_, _, _, _, _, _, rfl, rfl⟩)))
    · obtain ⟨h0, _⟩ := ifO h
      obtain rfl := isNilIf_of h0
      simp only [S.ok] at hx hy; subst hx; obtain ⟨a, rfl, _⟩ := hy
      exact Or.inr (Or.inr (Or.inr (Or.inr (Or.inr ⟨_, _, rfl, rfl⟩))))
    · obtain ⟨h0, _⟩ := ifO h
      obtain rfl := isNilIf_of h0
      simp only [S.ok] at hx hy; subst hy; obtain ⟨a, rfl, _⟩ := hx
      exact Or.inr (Or.inr (Or.inr (Or.inr (Or.inl ⟨_, _, rfl, rfl⟩))))
    · unfold eqT at h
      split at h
      · simp only [S.ok] at hx hy
        obtain ⟨vs, rfl, _⟩ := hx
        obtain ⟨us, rfl, _⟩ := hy
        exact Or.inr (Or.inr (Or.inl ⟨_, _, rfl, rfl⟩))
      · simp only [ht] at h
        exact eq1_fit hn h hx hy
theorem eqX_guard (hT : TOk P tt) {t : TypeId} {x y r : S} {a b : Array Value} (h : eqX (std W) tt t x y = some r) (hx : x.ok m ν (.agg a)) (hy : y.ok m ν (.agg b)) (hn : NotNum x y) : P.eqGuardType P.depth t = false := by
  unfold eqX at h
  cases ht : tt t with
  | none => simp [ht] at h
  | some ti =>
    have hti := hT t ti ht
    simp only [ht] at h
    split at h
    · obtain ⟨h0, _⟩ := ifO h
      simp only [Bool.and_eq_true] at h0
      obtain ⟨n, c, rfl⟩ := isNilSl_of h0.1
      simp only [S.ok] at hx; cases hx
    · simp only [S.ok] at hx; obtain ⟨_, _, _, a, h1, _⟩ := hx; cases h1
    · simp only [S.ok] at hy; obtain ⟨_, _, _, a, h1, _⟩ := hy; cases h1
    · simp only [S.ok] at hy; obtain ⟨a, h1, _⟩ := hy; cases h1
    · simp only [S.ok] at hx; obtain ⟨a, h1, _⟩ := hx; cases h1
    · unfold eqT at h
      split at h
      · simp only [ht] at h
        obtain ⟨hcmp, h⟩ := ifO h
        split at h
        · rename_i hd; exact hti.guard (by simp [TI.agg, hd]) hcmp
        · rename_i hd; exact hti.guard (by simp [TI.agg, hd]) hcmp
        · cases h
      · simp only [ht] at h
        rcases eq1_fit hn h hx hy with ⟨_, _, h1, _⟩ | ⟨_, _, h1, _⟩ | h1 | ⟨_, _, _, _, _, _, h1, _⟩ | ⟨_, _, h1, _⟩ | ⟨_, _, h1, _⟩
        · cases h1
        · cases h1
        · unfold eq1 at h
          split at h
          all_goals first
            | (cases h; done)
            | (simp only [S.ok] at hx; first | (cases hx; done) | (obtain ⟨_, h2⟩ := hx; cases h2))
        · cases h1
        · cases h1
        · cases h1
theorem fits_bin {t : TypeId} {v u : Value} {b : Bool} (hf : Fits v u) (h : ∀ w, (Op.equal t v u).run P w = .ok b w) (w : World) : (binOp .eql t v u).run P w = .ok (.bool b) w ∧ (binOp .neq t v u).run P w = .ok (.bool (!b)) w := by
  have hw := h w
  rcases hf with ⟨_, _, rfl, rfl⟩ | ⟨_, _, rfl, rfl⟩ | ⟨_, _, rfl, rfl⟩ | ⟨_, _, _, _, _, _, rfl, rfl⟩ | ⟨_, _, rfl, rfl⟩ | ⟨_, _, rfl, rfl⟩ <;> simp [binOp, hw]
theorem fits_guard {t : TypeId} {v u : Value} (hf : Fits v u) (hag : ∀ a b, v = .agg a → u = .agg b → P.eqGuardType P.depth t = false) (op : BinOp) (xo yo : Operand) (w : World) : (eqGuard op t xo yo v u).run P w = .ok () w := by
  rcases hf with ⟨_, _, rfl, rfl⟩ | ⟨_, _, rfl, rfl⟩ | ⟨_, _, rfl, rfl⟩ | ⟨_, _, _, _, _, _, rfl, rfl⟩ | ⟨_, _, rfl, rfl⟩ | ⟨_, _, rfl, rfl⟩
  case inr.inr.inl => exact run_eqGuard_agg w op t xo yo _ _ (hag _ _ rfl rfl)
  all_goals cases op <;> simp [eqGuard]
theorem binS_sound (hT : TOk P tt) {op : BinOp} {t : TypeId} {x y : S} {v u : Value} (hx : x.ok m ν v) (hy : y.ok m ν u) (h : binS (std W) tt op t x y K) (xo yo : Operand) :
    Gives P m ν (do eqGuard op t xo yo v u; binOp op t v u) K := by
  have fin : ∀ (hg : ∀ w, (eqGuard op t xo yo v u).run P w = .ok () w), Gives P m ν (binOp op t v u) K → Gives P m ν (do eqGuard op t xo yo v u; binOp op t v u) K := by
    rintro hg ⟨s, r, h1, h2, h3⟩
    exact ⟨s, r, h1, h2, fun w => by simp [hg, h3]⟩
  have gi : ∀ k a k' b, v = .int k a → u = .int k' b → ∀ w, (eqGuard op t xo yo v u).run P w = .ok () w := by
    rintro k a k' b rfl rfl w
    cases op <;> simp [eqGuard]
  have gs : ∀ a b, v = .string a → u = .string b → ∀ w, (eqGuard op t xo yo v u).run P w = .ok () w := by
    rintro a b rfl rfl w
    cases op <;> simp [eqGuard]
  unfold binS at h
  split at h
  · simp only [S.ok] at hx hy; subst hx; subst hy; exact fin (gi _ _ _ _ rfl rfl) (binI_sound t h)
  · simp only [S.ok] at hx hy; subst hx; subst hy; exact fin (gi _ _ _ _ rfl rfl) (binI_sound t h)
  · simp only [S.ok] at hx hy; subst hx; subst hy; exact fin (gi _ _ _ _ rfl rfl) (binI_sound t h)
  · simp only [S.ok] at hx hy; subst hx; subst hy; exact fin (gi _ _ _ _ rfl rfl) (binI_sound t h)
  · rename_i a b
    simp only [S.ok] at hx hy
    subst hx; subst hy
    split at h
    · exact fin (gs _ _ rfl rfl) ⟨_, _, h, by simp only [S.ok]; rfl, fun w => by simp [binOp, Op.stringOp, ByteArray.toList_eq]⟩
    · exact fin (gs _ _ rfl rfl) ⟨_, _, h, by simp only [S.ok]; rfl, fun w => by simp [binOp, Op.stringOp, ByteArray.toList_eq]⟩
    · obtain ⟨h0, h1⟩ := ifP h id
      refine fin (gs _ _ rfl rfl) ⟨_, .string ⟨(a ++ b).toArray⟩, h1, by simp only [S.ok], fun w => ?_⟩
      have hm : IntKind.i64.max = 9223372036854775807 := by decide
      have hs : ¬ (((⟨a.toArray⟩ : ByteArray).size + (⟨b.toArray⟩ : ByteArray).size : Nat) : Int) > IntKind.i64.max := by
        rw [hm]; simp only [ByteArray.size, List.size_toArray]; omega
      have ha : (⟨a.toArray⟩ : ByteArray) ++ ⟨b.toArray⟩ = ⟨(a ++ b).toArray⟩ := by
        apply ByteArray.ext; simp [ByteArray.data_append]
      simp only [binOp, Op.stringOp, if_neg hs, ha, Sem.run_pure]
    · exact h.elim
  · rename_i h1 h2 h3 h4 h5
    have hn : NotNum x y := ⟨fun k a k' b hx hy => h1 _ _ _ _ hx hy, fun k a k' b hx hy => h2 _ _ _ _ hx hy, fun k a k' b hx hy => h3 _ _ _ _ hx hy, fun k a k' b hx hy => h4 _ _ _ _ hx hy, fun a b hx hy => h5 _ _ hx hy⟩
    split at h
    · obtain ⟨s, hs, hK⟩ := someK_iff h
      obtain ⟨b, hb, hrun⟩ := eqX_ok hT hs hx hy
      have hf := eqX_fit hn hs hx hy
      exact fin (fits_guard hf (by rintro a b rfl rfl; exact eqX_guard hT hs hx hy hn) _ _ _) ⟨s, _, hK, hb, fun w => (fits_bin hf hrun w).1⟩
    · obtain ⟨s, hs, hK0⟩ := someK_iff h
      obtain ⟨s', hs', hK⟩ := someK_iff hK0
      obtain ⟨b, hb, hrun⟩ := eqX_ok hT hs hx hy
      obtain ⟨b', hbb, hn'⟩ := notS_ok hs' hb
      simp only [Value.bool.injEq] at hbb
      subst hbb
      have hf := eqX_fit hn hs hx hy
      exact fin (fits_guard hf (by rintro a b rfl rfl; exact eqX_guard hT hs hx hy hn) _ _ _) ⟨s', _, hK, hn', fun w => (fits_bin hf hrun w).2⟩
    · exact h.elim

theorem unS_sound {op : UnOp} {x r : S} {v : Value} (h : unS (std W) op x = some r) (hx : x.ok m ν v) : ∃ u, r.ok m ν u ∧ ∀ w, (Op.unary op v).run P w = .ok u w := by
  unfold unS at h
  split at h
  · obtain ⟨b, rfl, h2⟩ := notS_ok h hx
    exact ⟨_, h2, fun w => by simp [Op.unary]⟩
  · simp only [Option.some.injEq] at h; subst h
    simp only [S.ok] at hx; subst hx
    exact ⟨_, (by simp only [S.ok]; rfl), fun w => by simp [Op.unary, Op.intArith, stdA]⟩
  · simp only [Option.some.injEq] at h; subst h
    simp only [S.ok] at hx; subst hx
    exact ⟨_, (by simp only [S.ok, std]; rfl), fun w => by simp [Op.unary, Op.intArith, stdA]⟩
  · split at h
    · cases h
    rename_i hk
    simp only [Option.some.injEq] at h; subst h
    simp only [S.ok] at hx; subst hx
    exact ⟨_, (by simp only [S.ok]; rfl), fun w => by simp [Op.unary, Op.intBits, stdA, hk]⟩
  · split at h
    · cases h
    rename_i hk
    simp only [Option.some.injEq] at h; subst h
    simp only [S.ok] at hx; subst hx
    exact ⟨_, (by simp only [S.ok, std]; rfl), fun w => by simp [Op.unary, Op.intBits, stdA, hk]⟩
  · cases h
theorem TIOk.und {t : TypeId} {ti : TI} (hti : TIOk P t ti) : ∃ d, P.underlying t = some d := by
  have hd := hti.desc
  cases h : ti.d <;> simp only [h] at hd
  case struct fs => obtain ⟨fa, h1, _⟩ := hd; exact ⟨_, h1⟩
  case iface => obtain ⟨fa, h1⟩ := hd; exact ⟨_, h1⟩
  case func => obtain ⟨a, b, c, h1⟩ := hd; exact ⟨_, h1⟩
  all_goals exact ⟨_, hd⟩
theorem convS_sound (hT : TOk P tt) {a b : TypeId} {x r : S} {v : Value} (h : convS (std W) tt a b x = some r) (hx : x.ok m ν v) : ∃ u, r.ok m ν u ∧ ∀ w, (convert a b v).run P w = .ok u w := by
  unfold convS at h
  cases hta : tt a with
  | none => simp [hta] at h
  | some tia =>
  cases ht : tt b with
  | none => simp [hta, ht] at h
  | some ti =>
    have hti := hT b ti ht
    have hd := hti.desc
    obtain ⟨da, ha⟩ := (hT a tia hta).und
    simp only [hta, ht] at h
    split at h
    · rename_i hdd
      simp only [hdd] at hd
      simp only [Option.some.injEq] at h; subst h
      simp only [S.ok] at hx; subst hx
      exact ⟨_, (by simp only [S.ok]; rfl), fun w => by simp [convert, run_underlying ha, run_underlying hd, Conv.intToInt, stdAF_eq, stdA]⟩
    · rename_i hdd
      simp only [hdd] at hd
      simp only [Option.some.injEq] at h; subst h
      simp only [S.ok] at hx; subst hx
      exact ⟨_, (by simp only [S.ok, std]; rfl), fun w => by simp [convert, run_underlying ha, run_underlying hd, Conv.intToInt, stdA]⟩
    · rename_i hdd
      simp only [hdd] at hd
      simp only [Option.some.injEq] at h; subst h
      simp only [S.ok] at hx; subst hx
      exact ⟨_, (by simp only [S.ok]; rfl), fun w => by simp [convert, run_underlying ha, run_underlying hd]⟩
    · cases h

/-! Numbers. -/
theorem addN_val (a b : NN) : (addN (std W) a b).val = a.val + b.val := by
  cases a <;> cases b <;> simp only [addN, std, stdN] <;> (try split) <;> simp_all [NN.val]
theorem subN_val (a b : NN) : (subN (std W) a b).val = a.val - b.val := by
  cases a <;> cases b <;> simp only [subN, std, stdN] <;> (try split) <;> simp_all [NN.val]
theorem mulN_val (a : NN) (b : Nat) : (mulN (std W) a b).val = a.val * b := by
  cases a <;> simp only [mulN, std, stdN] <;> (try split) <;> simp_all [NN.val]
theorem leN_std (a b : NN) : leN (std W) a b = decide (a.val ≤ b.val) := by
  cases a <;> cases b <;> simp [leN, std, stdB, NN.val, castI_eq] <;> exact decide_eq_decide.mpr Iff.rfl
theorem ltN_std (a b : NN) : ltN (std W) a b = decide (a.val < b.val) := by
  cases a <;> cases b <;> simp [ltN, std, stdB, NN.val, castI_eq] <;> exact decide_eq_decide.mpr Iff.rfl
theorem leZ_std {lit : Bool} {z : Int} (h0 : 0 ≤ z) (n : NN) : leZ (std W) lit z n = decide (z.toNat ≤ n.val) := by
  cases lit with
  | true => simp only [leZ, leN_std]; rfl
  | false =>
    simp only [leZ, std, stdB, NN.z_eq]
    exact decide_eq_decide.mpr (by omega)
theorem ltZ_std {lit : Bool} {z : Int} (h0 : 0 ≤ z) (n : NN) : ltZ (std W) lit z n = decide (z.toNat < n.val) := by
  cases lit with
  | true => simp only [ltZ, ltN_std]; rfl
  | false =>
    simp only [ltZ, std, stdB, NN.z_eq]
    exact decide_eq_decide.mpr (by omega)
theorem natS_val (lit : Bool) (n : Int) : (natS (std W) lit n).val = n.toNat := by cases lit <;> simp [natS, std, NN.val]
theorem int_ok (n : NN) : n.int.ok m ν (goInt n.val) := by cases n <;> simp [NN.int, S.ok, NN.val, goInt]
theorem symS_ok {x : S} {lit : Bool} {z : Int} {v : Value} (h : symS x = some (lit, z)) (hx : x.ok m ν v) : ∃ k, v = .int k z := by
  unfold symS at h
  split at h <;> simp only [Option.some.injEq, Prod.mk.injEq, reduceCtorEq] at h
  · obtain ⟨_, rfl⟩ := h; exact ⟨_, by simpa only [S.ok] using hx⟩
  · obtain ⟨_, rfl⟩ := h; exact ⟨_, by simpa only [S.ok] using hx⟩
theorem forkI_ok {z : Int} {K : NN → Prop} (h0 : 0 ≤ z) : ∀ (r k : Nat), forkI (std W) z K r k → k ≤ z.toNat → z.toNat < k + r → ∃ j : NN, j.val = z.toNat ∧ K j
  | 0, k, h, _, _ => h.elim
  | r + 1, k, h, h1, h2 => by
    unfold forkI at h
    split at h
    · exact ⟨.l k, by show k = z.toNat; omega, h⟩
    · rename_i r'
      split at h
      · rename_i he
        have he : stdB .eq z (Int.ofNat k) = true := he
        simp only [stdB, beq_iff_eq] at he
        exact ⟨.l k, by show k = z.toNat; rw [he]; rfl, h⟩
      · rename_i he
        have he : ¬ stdB .eq z (Int.ofNat k) = true := he
        simp only [stdB, beq_iff_eq] at he
        refine forkI_ok h0 (r' + 1) (k + 1) h ?_ (by omega)
        have : z.toNat ≠ k := fun hk => he (by rw [← hk]; exact (Int.toNat_of_nonneg h0).symm)
        omega
theorem idxS_ok {i : S} {n : NN} {K : NN → Prop} {v : Value} (h : idxS (std W) i n K) (hi : i.ok m ν v) : ∃ k z, v = .int k z ∧ 0 ≤ z ∧ z.toNat < n.val ∧ ∃ j : NN, j.val = z.toNat ∧ K j := by
  unfold idxS at h
  split at h
  case h_2 => exact h.elim
  rename_i lit z hs
  obtain ⟨k, rfl⟩ := symS_ok hs hi
  obtain ⟨h0, h1⟩ := ifP h id
  obtain ⟨h2, h3⟩ := ifP h1 id
  rw [tb_std] at h0
  simp only [stdB, decide_eq_true_eq] at h0
  rw [ltZ_std h0, decide_eq_true_eq] at h2
  split at h3
  · split at h3
    · obtain ⟨j, g1, g2⟩ := forkI_ok h0 _ 0 h3 (Nat.zero_le _) (by simpa [NN.val] using h2)
      exact ⟨k, z, rfl, h0, h2, j, g1, g2⟩
    · exact ⟨k, z, rfl, h0, h2, _, natS_val _ _, h3⟩
  · exact ⟨k, z, rfl, h0, h2, _, natS_val _ _, h3⟩
theorem add_addr (b o n : Nat) : Addr.add ⟨b, o, none⟩ n = ⟨b, o + n, none⟩ := by
  unfold Addr.add
  split
  · rename_i h; rw [h]; simp
  · rfl
theorem idxAddr_sound (hT : TOk P tt) {t : TypeId} {x i : S} {v u : Value} (h : idxAddr (std W) tt t x i K) (hx : x.ok m ν v) (hi : i.ok m ν u) : Gives P m ν (Instr.indexAt t v u) K := by
  unfold idxAddr at h
  cases ht : tt t with
  | none => simp [ht] at h
  | some ti =>
    have hd := (hT t ti ht).desc
    simp only [ht] at h
    split at h
    · rename_i n e id off hdd
      simp only [hdd] at hd
      cases hte : tt e with
      | none => simp [hte] at h
      | some te =>
        simp only [hte] at h
        obtain ⟨k, z, rfl, h0, h1, j, hj, hK⟩ := idxS_ok h hi
        simp only [S.ok] at hx
        obtain ⟨hid, rfl⟩ := hx
        simp only [NN.val] at h1
        refine ⟨_, _, hK, (by simp only [S.ok]; exact ⟨hid, rfl⟩), fun w => ?_⟩
        have hz : 0 ≤ z ∧ z < (n : Int) := by omega
        have hadd : Addr.add ⟨(ν id).blk, (ν id).base + off.val, none⟩ (z.toNat * te.size) = ⟨(ν id).blk, (ν id).base + (addN (std W) off (mulN (std W) j te.size)).val, none⟩ := by
          rw [addN_val, mulN_val, hj]
          unfold Addr.add
          split
          · rename_i h; rw [h]; simp
          · simp [Nat.add_assoc]
        simp [Instr.indexAt, asIntOf, run_underlying hd, Instr.sureAddr, hz, run_size (hT e te hte), hadd]
    · rename_i e id off len c z hdd
      simp only [hdd] at hd
      cases hte : tt e with
      | none => simp [hte] at h
      | some te =>
        simp only [hte] at h
        obtain ⟨k, z, rfl, h0, h1, j, hj, hK⟩ := idxS_ok h hi
        simp only [S.ok] at hx
        obtain ⟨hid, hlc, hmx, a, rfl, ha⟩ := hx
        have ha := ha (Or.inr (by omega))
        subst ha
        refine ⟨_, _, hK, (by simp only [S.ok]; exact ⟨hid, rfl⟩), fun w => ?_⟩
        have hz : 0 ≤ z ∧ z < (len.val : Int) := by omega
        have hadd : Addr.add ⟨(ν id).blk, (ν id).base + off.val, none⟩ (z.toNat * te.size) = ⟨(ν id).blk, (ν id).base + (addN (std W) off (mulN (std W) j te.size)).val, none⟩ := by
          rw [addN_val, mulN_val, hj]
          unfold Addr.add
          split
          · rename_i h; rw [h]; simp
          · simp [Nat.add_assoc]
        simp [Instr.indexAt, asIntOf, run_underlying hd, hz, run_size (hT e te hte), hadd]
    · rename_i e v' hdd
      simp only [hdd] at hd
      split at h
      case h_2 => exact h.elim
      rename_i te b o n cp hte
      obtain ⟨k, z, rfl, h0, h1, j, hj, hK⟩ := idxS_ok h hi
      simp only [S.ok] at hx
      subst hx
      have h1' : z.toNat < n := h1
      refine ⟨_, .pointer (some (Addr.add ⟨b, o, none⟩ (z.toNat * te.size))), hK, ?_, fun w => ?_⟩
      · simp only [S.ok, mulN_val, hj, add_addr]
      · have hz : 0 ≤ z ∧ z < (n : Int) := by omega
        simp [Instr.indexAt, asIntOf, run_underlying hd, hz, run_size (hT e te hte)]
    · rename_i n e a off hdd
      simp only [hdd] at hd
      cases hte : tt e with
      | none => simp [hte] at h
      | some te =>
        simp only [hte] at h
        obtain ⟨k, z, rfl, h0, h1, j, hj, hK⟩ := idxS_ok h hi
        simp only [S.ok] at hx
        subst hx
        have h1' : z.toNat < n := h1
        refine ⟨_, _, hK, (by simp only [S.ok]; rfl), fun w => ?_⟩
        have hz : 0 ≤ z ∧ z < (n : Int) := by omega
        have hadd : Addr.add ⟨a.block, a.off + off.val, none⟩ (z.toNat * te.size) = ⟨a.block, a.off + (addN (std W) off (mulN (std W) j te.size)).val, none⟩ := by
          rw [addN_val, mulN_val, hj]
          unfold Addr.add
          split
          · rename_i h; rw [h]; simp
          · simp [Nat.add_assoc]
        simp [Instr.indexAt, asIntOf, run_underlying hd, Instr.sureAddr, hz, run_size (hT e te hte), hadd]
    · exact h.elim
theorem fieldA_sound (hT : TOk P tt) {t : TypeId} {x r : S} {f : Nat} {v : Value} (h : fieldA (std W) tt t x f = some r) (hx : x.ok m ν v) : ∃ u, r.ok m ν u ∧ ∀ w, (Instr.fieldAt t v f).run P w = .ok u w := by
  unfold fieldA at h
  split at h
  case h_3 => cases h
  case h_1 ti id off ht =>
    have hd := (hT t ti ht).desc
    split at h
    case h_2 => cases h
    rename_i fs hdd
    simp only [hdd] at hd
    obtain ⟨fa, hu, hm, _, _⟩ := hd
    split at h
    case h_2 => cases h
    rename_i o ft hf
    cases hte : tt ft with
    | none => simp [hte] at h
    | some te =>
      simp only [hte] at h
      split at h
      · cases h
      rename_i hsz
      simp only [Option.some.injEq] at h
      subst h
      simp only [S.ok] at hx
      obtain ⟨hid, rfl⟩ := hx
      subst hm
      rw [List.getElem?_map] at hf
      cases hff : fa.toList[f]? with
      | none => simp [hff] at hf
      | some fl =>
        simp only [hff, Option.map_some, Option.some.injEq, Prod.mk.injEq] at hf
        obtain ⟨rfl, rfl⟩ := hf
        have hff' : fa[f]? = some fl := by simpa using hff
        refine ⟨_, (by simp only [S.ok]; exact ⟨hid, rfl⟩), fun w => ?_⟩
        have hadd : Addr.add ⟨(ν id).blk, (ν id).base + off.val, none⟩ fl.offset = ⟨(ν id).blk, (ν id).base + (addN (std W) off (.l fl.offset)).val, none⟩ := by
          rw [addN_val]
          unfold Addr.add
          split
          · rename_i h; simp [h, NN.val]
          · simp [Nat.add_assoc, NN.val]
        simp [Instr.fieldAt, run_underlying hu, hff', Instr.sureAddr, fieldPlace, run_size (hT _ _ hte), hsz, hadd]
  case h_2 ti a off ht =>
    have hd := (hT t ti ht).desc
    split at h
    case h_2 => cases h
    rename_i fs hdd
    simp only [hdd] at hd
    obtain ⟨fa, hu, hm, _, _⟩ := hd
    split at h
    case h_2 => cases h
    rename_i o ft hf
    cases hte : tt ft with
    | none => simp [hte] at h
    | some te =>
      simp only [hte] at h
      split at h
      · cases h
      rename_i hsz
      simp only [Option.some.injEq] at h
      subst h
      simp only [S.ok] at hx
      subst hx
      subst hm
      rw [List.getElem?_map] at hf
      cases hff : fa.toList[f]? with
      | none => simp [hff] at hf
      | some fl =>
        simp only [hff, Option.map_some, Option.some.injEq, Prod.mk.injEq] at hf
        obtain ⟨rfl, rfl⟩ := hf
        have hff' : fa[f]? = some fl := by simpa using hff
        refine ⟨_, (by simp only [S.ok]; rfl), fun w => ?_⟩
        have hadd : Addr.add ⟨a.block, a.off + off.val, none⟩ fl.offset = ⟨a.block, a.off + (addN (std W) off (.l fl.offset)).val, none⟩ := by
          rw [addN_val]
          unfold Addr.add
          split
          · rename_i h; simp [h, NN.val]
          · simp [Nat.add_assoc, NN.val]
        simp [Instr.fieldAt, run_underlying hu, hff', Instr.sureAddr, fieldPlace, run_size (hT _ _ hte), hsz, hadd]
theorem fieldV_sound (hT : TOk P tt) {t : TypeId} {x r : S} {f : Nat} {v : Value} (h : fieldV tt t x f = some r) (hx : x.ok m ν v) : ∃ u, r.ok m ν u ∧ ∀ w, (Instr.field t v f).run P w = .ok u w := by
  unfold fieldV at h
  split at h
  case h_2 => cases h
  case h_1 ti cs ht =>
    have hd := (hT t ti ht).desc
    split at h
    case h_2 => cases h
    rename_i fs hdd
    simp only [hdd] at hd
    obtain ⟨fa, hu, hm, _, _⟩ := hd
    split at h
    case h_2 => cases h
    rename_i o ft hf
    simp only [S.ok] at hx
    obtain ⟨vs, rfl, hc⟩ := hx
    subst hm
    rw [List.getElem?_map] at hf
    cases hff : fa.toList[f]? with
    | none => simp [hff] at hf
    | some fl =>
      simp only [hff, Option.map_some, Option.some.injEq, Prod.mk.injEq] at hf
      obtain ⟨rfl, rfl⟩ := hf
      have hff' : fa[f]? = some fl := by simpa using hff
      obtain ⟨u, h1, h2⟩ := part_ok hT h hc
      exact ⟨u, h1, fun w => by simp [Instr.field, run_underlying hu, hff', asAgg, h2]⟩
end
end Go.SX
