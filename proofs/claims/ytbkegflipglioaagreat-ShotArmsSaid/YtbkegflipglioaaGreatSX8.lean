/- SX: SX7 to SX8. -/
import Derived.Test.YtbkegflipglioaaGreatSX6
namespace Go.SX
open Go.RowKit
def Fits (v u : Value) : Prop := (∃ a b, v = .bool a ∧ u = .bool b) ∨ (∃ a b, v = .pointer a ∧ u = .pointer b) ∨ (∃ a b, v = .agg a ∧ u = .agg b) ∨ (∃ a b c d e f, v = .slice a b c ∧ u = .slice d e f) ∨ (∃ a b, v = .iface a b ∧ u = .nilIface) ∨ (∃ a b, v = .nilIface ∧ u = .iface a b)
def NotNum (x y : S) : Prop := (∀ k a k' b, x = .il k a → y = .il k' b → False) ∧ (∀ k a k' b, x = .il k a → y = .iv k' b → False) ∧ (∀ k a k' b, x = .iv k a → y = .il k' b → False) ∧ (∀ k a k' b, x = .iv k a → y = .iv k' b → False) ∧ (∀ a b, x = .tl a → y = .tl b → False)
section
variable {W : Addr → Nat → Nat → Option (List S)}
variable {P : Program} {tt : Nat → Option TI} {m : Nat} {ν : Nat → Env} {K : S → Prop}
theorem someK_iff {x : Option S} (h : someK x K) : ∃ s, x = some s ∧ K s := by
  unfold someK at h
  split at h
  · exact ⟨_, rfl, h⟩
  · exact h.elim
theorem eq1_fit {d : TD} {x y r : S} {v u : Value} (hn : NotNum x y) (h : eq1 (std W) d x y = some r) (hx : x.ok m ν v) (hy : y.ok m ν u) : Fits v u := by
  obtain ⟨n1, n2, n3, n4, n5⟩ := hn
  unfold eq1 at h
  split at h
  · exact (n1 _ _ _ _ rfl rfl).elim
  · exact (n2 _ _ _ _ rfl rfl).elim
  · exact (n3 _ _ _ _ rfl rfl).elim
  · exact (n4 _ _ _ _ rfl rfl).elim
  · simp only [S.ok] at hx hy; subst hx; subst hy; exact Or.inl ⟨_, _, rfl, rfl⟩
  · simp only [S.ok] at hx hy; subst hx; subst hy; exact Or.inl ⟨_, _, rfl, rfl⟩
  · simp only [S.ok] at hx hy; subst hx; subst hy; exact Or.inl ⟨_, _, rfl, rfl⟩
  · simp only [S.ok] at hx hy; subst hx; subst hy; exact Or.inl ⟨_, _, rfl, rfl⟩
  · exact (n5 _ _ rfl rfl).elim
  · simp only [S.ok] at hx hy; subst hx; subst hy; exact Or.inr (Or.inl ⟨_, _, rfl, rfl⟩)
  · simp only [S.ok] at hx hy; subst hx; obtain ⟨_, rfl⟩ := hy; exact Or.inr (Or.inl ⟨_, _, rfl, rfl⟩)
  · simp only [S.ok] at hx hy; obtain ⟨_, rfl⟩ := hx; subst hy; exact Or.inr (Or.inl ⟨_, _, rfl, rfl⟩)
  · cases h
theorem eqX_fit {t : TypeId} {x y r : S} {v u : Value} (hn : NotNum x y) (h : eqX (std W) tt t x y = some r) (hx : x.ok m ν v) (hy : y.ok m ν u) : Fits v u := by
  unfold eqX at h
  cases ht : tt t with
  | none => simp [ht] at h
  | some ti =>
    simp only [ht] at h
    split at h
    · obtain ⟨h0, _⟩ := ifO h
      simp only [Bool.and_eq_true] at h0
      obtain ⟨n, c, rfl⟩ := isNilSl_of h0.1
      obtain ⟨n2, c2, rfl⟩ := isNilSl_of h0.2
      simp only [S.ok] at hx hy; subst hx; subst hy
      exact Or.inr (Or.inr (Or.inr (Or.inl ⟨_, _, _, _, _, _, rfl, rfl⟩)))
    · obtain ⟨h0, _⟩ := ifO h
      obtain ⟨n, c, rfl⟩ := isNilSl_of h0
      simp only [S.ok] at hx hy; subst hy; obtain ⟨_, _, _, a, rfl, _⟩ := hx
      exact Or.inr (Or.inr (Or.inr (Or.inl ⟨_, _, _, _, _, _, rfl, rfl⟩)))
    · obtain ⟨h0, _⟩ := ifO h
      obtain ⟨n, c, rfl⟩ := isNilSl_of h0
      simp only [S.ok] at hx hy; subst hx; obtain ⟨_, _, _, a, rfl, _⟩ := hy
      exact Or.inr (Or.inr (Or.inr (Or.inl ⟨_, _, _, _, _, _, rfl, rfl⟩)))
    · obtain ⟨h0, _⟩ := ifO h
      obtain ⟨n, c, rfl⟩ := isNilSl_of h0
      simp only [S.ok] at hx hy; subst hy
      obtain ⟨_, _, hl, hx⟩ := hx
      rcases hx with ⟨_, a, c', rfl, ha⟩ | ⟨_, _, _, rfl⟩
      · exact Or.inr (Or.inr (Or.inr (Or.inl ⟨_, _, _, _, _, _, rfl, rfl⟩)))
      · exact Or.inr (Or.inr (Or.inr (Or.inl ⟨_, _, _, _, _, _, rfl, rfl⟩)))
    · obtain ⟨h0, _⟩ := ifO h
      obtain rfl := isNilIf_of h0
      simp only [S.ok] at hx hy; subst hx; obtain ⟨a, rfl, _⟩ := hy
      exact Or.inr (Or.inr (Or.inr (Or.inr (Or.inr ⟨_, _, rfl, rfl⟩))))
    · obtain ⟨h0, _⟩ := ifO h
      obtain rfl := isNilIf_of h0
      simp only [S.ok] at hx hy; subst hy; obtain ⟨a, rfl, _⟩ := hx
      exact Or.inr (Or.inr (Or.inr (Or.inr (Or.inl ⟨_, _, rfl, rfl⟩))))
    · unfold eqT at h
      split at h
      · simp only [S.ok] at hx hy
        obtain ⟨vs, rfl, _⟩ := hx
        obtain ⟨us, rfl, _⟩ := hy
        exact Or.inr (Or.inr (Or.inl ⟨_, _, rfl, rfl⟩))
      · simp only [ht] at h
        exact eq1_fit hn h hx hy
theorem eqX_guard (hT : TOk P tt) {t : TypeId} {x y r : S} {a b : Array Value} (h : eqX (std W) tt t x y = some r) (hx : x.ok m ν (.agg a)) (hy : y.ok m ν (.agg b)) (hn : NotNum x y) : P.eqGuardType P.depth t = false := by
  unfold eqX at h
  cases ht : tt t with
  | none => simp [ht] at h
  | some ti =>
    have hti := hT t ti ht
    simp only [ht] at h
    split at h
    · obtain ⟨h0, _⟩ := ifO h
      simp only [Bool.and_eq_true] at h0
      obtain ⟨n, c, rfl⟩ := isNilSl_of h0.1
      simp only [S.ok] at hx; cases hx
    · simp only [S.ok] at hx; obtain ⟨_, _, _, a, h1, _⟩ := hx; cases h1
    · simp only [S.ok] at hy; obtain ⟨_, _, _, a, h1, _⟩ := hy; cases h1
    · simp only [S.ok] at hx; obtain ⟨_, _, _, hx⟩ := hx; rcases hx with ⟨_, a, c', h1, _⟩ | ⟨_, _, _, h1⟩ <;> cases h1
    · simp only [S.ok] at hy; obtain ⟨a, h1, _⟩ := hy; cases h1
    · simp only [S.ok] at hx; obtain ⟨a, h1, _⟩ := hx; cases h1
    · unfold eqT at h
      split at h
      · simp only [ht] at h
        obtain ⟨hcmp, h⟩ := ifO h
        split at h
        · rename_i hd; exact hti.guard (by simp [TI.agg, hd]) hcmp
        · rename_i hd; exact hti.guard (by simp [TI.agg, hd]) hcmp
        · cases h
      · simp only [ht] at h
        rcases eq1_fit hn h hx hy with ⟨_, _, h1, _⟩ | ⟨_, _, h1, _⟩ | h1 | ⟨_, _, _, _, _, _, h1, _⟩ | ⟨_, _, h1, _⟩ | ⟨_, _, h1, _⟩
        · cases h1
        · cases h1
        · unfold eq1 at h
          split at h
          all_goals first
            | (cases h; done)
            | (simp only [S.ok] at hx; first | (cases hx; done) | (obtain ⟨_, h2⟩ := hx; cases h2))
        · cases h1
        · cases h1
        · cases h1
theorem fits_bin {t : TypeId} {v u : Value} {b : Bool} (hf : Fits v u) (h : ∀ w, (Op.equal t v u).run P w = .ok b w) (w : World) : (binOp .eql t v u).run P w = .ok (.bool b) w ∧ (binOp .neq t v u).run P w = .ok (.bool (!b)) w := by
  have hw := h w
  rcases hf with ⟨_, _, rfl, rfl⟩ | ⟨_, _, rfl, rfl⟩ | ⟨_, _, rfl, rfl⟩ | ⟨_, _, _, _, _, _, rfl, rfl⟩ | ⟨_, _, rfl, rfl⟩ | ⟨_, _, rfl, rfl⟩ <;> simp [binOp, hw]
theorem fits_guard {t : TypeId} {v u : Value} (hf : Fits v u) (hag : ∀ a b, v = .agg a → u = .agg b → P.eqGuardType P.depth t = false) (op : BinOp) (xo yo : Operand) (w : World) : (eqGuard op t xo yo v u).run P w = .ok () w := by
  rcases hf with ⟨_, _, rfl, rfl⟩ | ⟨_, _, rfl, rfl⟩ | ⟨_, _, rfl, rfl⟩ | ⟨_, _, _, _, _, _, rfl, rfl⟩ | ⟨_, _, rfl, rfl⟩ | ⟨_, _, rfl, rfl⟩
  case inr.inr.inl => exact run_eqGuard_agg w op t xo yo _ _ (hag _ _ rfl rfl)
  all_goals cases op <;> simp [eqGuard]
theorem binS_sound (hT : TOk P tt) {op : BinOp} {t : TypeId} {x y : S} {v u : Value} (hx : x.ok m ν v) (hy : y.ok m ν u) (h : binS (std W) tt op t x y K) (xo yo : Operand) :
    Gives P m ν (do eqGuard op t xo yo v u; binOp op t v u) K := by
  have fin : ∀ (hg : ∀ w, (eqGuard op t xo yo v u).run P w = .ok () w), Gives P m ν (binOp op t v u) K → Gives P m ν (do eqGuard op t xo yo v u; binOp op t v u) K := by
    rintro hg ⟨s, r, h1, h2, h3⟩
    exact ⟨s, r, h1, h2, fun w => by simp [hg, h3]⟩
  have gi : ∀ k a k' b, v = .int k a → u = .int k' b → ∀ w, (eqGuard op t xo yo v u).run P w = .ok () w := by
    rintro k a k' b rfl rfl w
    cases op <;> simp [eqGuard]
  have gs : ∀ a b, v = .string a → u = .string b → ∀ w, (eqGuard op t xo yo v u).run P w = .ok () w := by
    rintro a b rfl rfl w
    cases op <;> simp [eqGuard]
  unfold binS at h
  split at h
  · simp only [S.ok] at hx hy; subst hx; subst hy; exact fin (gi _ _ _ _ rfl rfl) (binI_sound t h)
  · simp only [S.ok] at hx hy; subst hx; subst hy; exact fin (gi _ _ _ _ rfl rfl) (binI_sound t h)
  · simp only [S.ok] at hx hy; subst hx; subst hy; exact fin (gi _ _ _ _ rfl rfl) (binI_sound t h)
  · simp only [S.ok] at hx hy; subst hx; subst hy; exact fin (gi _ _ _ _ rfl rfl) (binI_sound t h)
  · rename_i a b
    simp only [S.ok] at hx hy
    subst hx; subst hy
    split at h
    · exact fin (gs _ _ rfl rfl) ⟨_, _, h, by simp only [S.ok]; rfl, fun w => by simp [binOp, Op.stringOp, ByteArray.toList_eq]⟩
    · exact fin (gs _ _ rfl rfl) ⟨_, _, h, by simp only [S.ok]; rfl, fun w => by simp [binOp, Op.stringOp, ByteArray.toList_eq]⟩
    · obtain ⟨h0, h1⟩ := ifP h id
      refine fin (gs _ _ rfl rfl) ⟨_, .string ⟨(a ++ b).toArray⟩, h1, by simp only [S.ok], fun w => ?_⟩
      have hm : IntKind.i64.max = 9223372036854775807 := by decide
      have hs : ¬ (((⟨a.toArray⟩ : ByteArray).size + (⟨b.toArray⟩ : ByteArray).size : Nat) : Int) > IntKind.i64.max := by
        rw [hm]; simp only [ByteArray.size, List.size_toArray]; omega
      have ha : (⟨a.toArray⟩ : ByteArray) ++ ⟨b.toArray⟩ = ⟨(a ++ b).toArray⟩ := by
        apply ByteArray.ext; simp [ByteArray.data_append]
      simp only [binOp, Op.stringOp, if_neg hs, ha, Sem.run_pure]
    · exact h.elim
  · rename_i h1 h2 h3 h4 h5
    have hn : NotNum x y := ⟨fun k a k' b hx hy => h1 _ _ _ _ hx hy, fun k a k' b hx hy => h2 _ _ _ _ hx hy, fun k a k' b hx hy => h3 _ _ _ _ hx hy, fun k a k' b hx hy => h4 _ _ _ _ hx hy, fun a b hx hy => h5 _ _ hx hy⟩
    split at h
    · obtain ⟨s, hs, hK⟩ := someK_iff h
      obtain ⟨b, hb, hrun⟩ := eqX_ok hT hs hx hy
      have hf := eqX_fit hn hs hx hy
      exact fin (fits_guard hf (by rintro a b rfl rfl; exact eqX_guard hT hs hx hy hn) _ _ _) ⟨s, _, hK, hb, fun w => (fits_bin hf hrun w).1⟩
    · obtain ⟨s, hs, hK0⟩ := someK_iff h
      obtain ⟨s', hs', hK⟩ := someK_iff hK0
      obtain ⟨b, hb, hrun⟩ := eqX_ok hT hs hx hy
      obtain ⟨b', hbb, hn'⟩ := notS_ok hs' hb
      simp only [Value.bool.injEq] at hbb
      subst hbb
      have hf := eqX_fit hn hs hx hy
      exact fin (fits_guard hf (by rintro a b rfl rfl; exact eqX_guard hT hs hx hy hn) _ _ _) ⟨s', _, hK, hn', fun w => (fits_bin hf hrun w).2⟩
    · exact h.elim

theorem unS_sound {op : UnOp} {x r : S} {v : Value} (h : unS (std W) op x = some r) (hx : x.ok m ν v) : ∃ u, r.ok m ν u ∧ ∀ w, (Op.unary op v).run P w = .ok u w := by
  unfold unS at h
  split at h
  · obtain ⟨b, rfl, h2⟩ := notS_ok h hx
    exact ⟨_, h2, fun w => by simp [Op.unary]⟩
  · simp only [Option.some.injEq] at h; subst h
    simp only [S.ok] at hx; subst hx
    exact ⟨_, (by simp only [S.ok]; rfl), fun w => by simp [Op.unary, Op.intArith, stdA]⟩
  · simp only [Option.some.injEq] at h; subst h
    simp only [S.ok] at hx; subst hx
    exact ⟨_, (by simp only [S.ok, std]; rfl), fun w => by simp [Op.unary, Op.intArith, stdA]⟩
  · split at h
    · cases h
    rename_i hk
    simp only [Option.some.injEq] at h; subst h
    simp only [S.ok] at hx; subst hx
    exact ⟨_, (by simp only [S.ok]; rfl), fun w => by simp [Op.unary, Op.intBits, stdA, hk]⟩
  · split at h
    · cases h
    rename_i hk
    simp only [Option.some.injEq] at h; subst h
    simp only [S.ok] at hx; subst hx
    exact ⟨_, (by simp only [S.ok, std]; rfl), fun w => by simp [Op.unary, Op.intBits, stdA, hk]⟩
  · cases h
theorem TIOk.und {t : TypeId} {ti : TI} (hti : TIOk P t ti) : ∃ d, P.underlying t = some d := by
  have hd := hti.desc
  cases h : ti.d <;> simp only [h] at hd
  case struct fs => obtain ⟨fa, h1, _⟩ := hd; exact ⟨_, h1⟩
  case iface => obtain ⟨fa, h1⟩ := hd; exact ⟨_, h1⟩
  case func => obtain ⟨a, b, c, h1⟩ := hd; exact ⟨_, h1⟩
  all_goals exact ⟨_, hd⟩
theorem convS_sound (hT : TOk P tt) {a b : TypeId} {x r : S} {v : Value} (h : convS (std W) tt a b x = some r) (hx : x.ok m ν v) : ∃ u, r.ok m ν u ∧ ∀ w, (convert a b v).run P w = .ok u w := by
  unfold convS at h
  cases hta : tt a with
  | none => simp [hta] at h
  | some tia =>
  cases ht : tt b with
  | none => simp [hta, ht] at h
  | some ti =>
    have hti := hT b ti ht
    have hd := hti.desc
    obtain ⟨da, ha⟩ := (hT a tia hta).und
    simp only [hta, ht] at h
    split at h
    · rename_i hdd
      simp only [hdd] at hd
      simp only [Option.some.injEq] at h; subst h
      simp only [S.ok] at hx; subst hx
      exact ⟨_, (by simp only [S.ok]; rfl), fun w => by simp [convert, run_underlying ha, run_underlying hd, Conv.intToInt, stdAF_eq, stdA]⟩
    · rename_i hdd
      simp only [hdd] at hd
      simp only [Option.some.injEq] at h; subst h
      simp only [S.ok] at hx; subst hx
      exact ⟨_, (by simp only [S.ok, std]; rfl), fun w => by simp [convert, run_underlying ha, run_underlying hd, Conv.intToInt, stdA]⟩
    · rename_i hdd
      simp only [hdd] at hd
      simp only [Option.some.injEq] at h; subst h
      simp only [S.ok] at hx; subst hx
      exact ⟨_, (by simp only [S.ok]; rfl), fun w => by simp [convert, run_underlying ha, run_underlying hd]⟩
    · cases h

theorem addN_val (a b : NN) : (addN (std W) a b).val = a.val + b.val := by
  cases a <;> cases b <;> simp only [addN, std, stdN] <;> (try split) <;> simp_all [NN.val]
theorem subN_val (a b : NN) : (subN (std W) a b).val = a.val - b.val := by
  cases a <;> cases b <;> simp only [subN, std, stdN] <;> (try split) <;> simp_all [NN.val]
theorem mulN_val (a : NN) (b : Nat) : (mulN (std W) a b).val = a.val * b := by
  cases a <;> simp only [mulN, std, stdN] <;> (try split) <;> simp_all [NN.val]
theorem leN_std (a b : NN) : leN (std W) a b = decide (a.val ≤ b.val) := by
  cases a <;> cases b <;> simp [leN, std, stdB, NN.val, castI_eq] <;> exact decide_eq_decide.mpr Iff.rfl
theorem ltN_std (a b : NN) : ltN (std W) a b = decide (a.val < b.val) := by
  cases a <;> cases b <;> simp [ltN, std, stdB, NN.val, castI_eq] <;> exact decide_eq_decide.mpr Iff.rfl
theorem leZ_std {lit : Bool} {z : Int} (h0 : 0 ≤ z) (n : NN) : leZ (std W) lit z n = decide (z.toNat ≤ n.val) := by
  cases lit with
  | true => simp only [leZ, leN_std]; rfl
  | false =>
    simp only [leZ, std, stdB, NN.z_eq]
    exact decide_eq_decide.mpr (by omega)
theorem ltZ_std {lit : Bool} {z : Int} (h0 : 0 ≤ z) (n : NN) : ltZ (std W) lit z n = decide (z.toNat < n.val) := by
  cases lit with
  | true => simp only [ltZ, ltN_std]; rfl
  | false =>
    simp only [ltZ, std, stdB, NN.z_eq]
    exact decide_eq_decide.mpr (by omega)
theorem natS_val (lit : Bool) (n : Int) : (natS (std W) lit n).val = n.toNat := by cases lit <;> simp [natS, std, NN.val]
theorem int_ok (n : NN) : n.int.ok m ν (goInt n.val) := by cases n <;> simp [NN.int, S.ok, NN.val, goInt, castI_eq]
theorem symS_ok {x : S} {lit : Bool} {z : Int} {v : Value} (h : symS x = some (lit, z)) (hx : x.ok m ν v) : ∃ k, v = .int k z := by
  unfold symS at h
  split at h <;> simp only [Option.some.injEq, Prod.mk.injEq, reduceCtorEq] at h
  · obtain ⟨_, rfl⟩ := h; exact ⟨_, by simpa only [S.ok] using hx⟩
  · obtain ⟨_, rfl⟩ := h; exact ⟨_, by simpa only [S.ok] using hx⟩
theorem forkI_ok {z : Int} {K : NN → Prop} (h0 : 0 ≤ z) : ∀ (r k : Nat), forkI (std W) z K r k → k ≤ z.toNat → z.toNat < k + r → ∃ j : NN, j.val = z.toNat ∧ K j
  | 0, k, h, _, _ => h.elim
  | r + 1, k, h, h1, h2 => by
    unfold forkI at h
    split at h
    · exact ⟨.l k, by show k = z.toNat; omega, h⟩
    · rename_i r'
      split at h
      · rename_i he
        have he : stdB .eq z (Int.ofNat k) = true := he
        simp only [stdB, beq_iff_eq] at he
        exact ⟨.l k, by show k = z.toNat; rw [he]; rfl, h⟩
      · rename_i he
        have he : ¬ stdB .eq z (Int.ofNat k) = true := he
        simp only [stdB, beq_iff_eq] at he
        refine forkI_ok h0 (r' + 1) (k + 1) h ?_ (by omega)
        have : z.toNat ≠ k := fun hk => he (by rw [← hk]; exact (Int.toNat_of_nonneg h0).symm)
        omega
theorem idxS_ok {i : S} {n : NN} {K : NN → Prop} {v : Value} (h : idxS (std W) i n K) (hi : i.ok m ν v) : ∃ k z, v = .int k z ∧ 0 ≤ z ∧ z.toNat < n.val ∧ ∃ j : NN, j.val = z.toNat ∧ K j := by
  unfold idxS at h
  split at h
  case h_2 => exact h.elim
  rename_i lit z hs
  obtain ⟨k, rfl⟩ := symS_ok hs hi
  obtain ⟨h0, h1⟩ := ifP h id
  obtain ⟨h2, h3⟩ := ifP h1 id
  rw [tb_std] at h0
  simp only [stdB, decide_eq_true_eq] at h0
  rw [ltZ_std h0, decide_eq_true_eq] at h2
  split at h3
  · split at h3
    · obtain ⟨j, g1, g2⟩ := forkI_ok h0 _ 0 h3 (Nat.zero_le _) (by simpa [NN.val] using h2)
      exact ⟨k, z, rfl, h0, h2, j, g1, g2⟩
    · exact ⟨k, z, rfl, h0, h2, _, natS_val _ _, h3⟩
  · exact ⟨k, z, rfl, h0, h2, _, natS_val _ _, h3⟩
theorem idxT_ok {i : S} {n : NN} {top : Nat} {K : Nat → Prop} {v : Value} (h : idxT (std W) i n top K) (hi : i.ok m ν v) (ht : n.val ≤ top) : ∃ k z, v = .int k z ∧ 0 ≤ z ∧ z.toNat < n.val ∧ ∃ j : Nat, j = z.toNat ∧ K j := by
  unfold idxT at h
  split at h
  case h_2 => exact h.elim
  rename_i lit z hs
  obtain ⟨k, rfl⟩ := symS_ok hs hi
  obtain ⟨h0, h1⟩ := ifP h id
  obtain ⟨h2, h3⟩ := ifP h1 id
  rw [tb_std] at h0
  simp only [stdB, decide_eq_true_eq] at h0
  rw [ltZ_std h0, decide_eq_true_eq] at h2
  split at h3
  · exact ⟨k, z, rfl, h0, h2, _, rfl, h3⟩
  · obtain ⟨j, g1, g2⟩ := forkI_ok h0 _ 0 h3 (Nat.zero_le _) (by omega)
    exact ⟨k, z, rfl, h0, h2, j.val, g1, g2⟩
theorem add_addr (b o n : Nat) : Addr.add ⟨b, o, none⟩ n = ⟨b, o + n, none⟩ := by
  unfold Addr.add
  split
  · rename_i h; rw [h]; simp
  · rfl
theorem idxAddr_sound (hT : TOk P tt) {t : TypeId} {x i : S} {v u : Value} (h : idxAddr (std W) tt t x i K) (hx : x.ok m ν v) (hi : i.ok m ν u) : Gives P m ν (Instr.indexAt t v u) K := by
  unfold idxAddr at h
  cases ht : tt t with
  | none => simp [ht] at h
  | some ti =>
    have hd := (hT t ti ht).desc
    simp only [ht] at h
    split at h
    · rename_i n e id off hdd
      simp only [hdd] at hd
      cases hte : tt e with
      | none => simp [hte] at h
      | some te =>
        simp only [hte] at h
        obtain ⟨k, z, rfl, h0, h1, j, hj, hK⟩ := idxS_ok h hi
        simp only [S.ok] at hx
        obtain ⟨hid, rfl⟩ := hx
        simp only [NN.val] at h1
        refine ⟨_, _, hK, (by simp only [S.ok]; exact ⟨hid, rfl⟩), fun w => ?_⟩
        have hz : 0 ≤ z ∧ z < (n : Int) := by omega
        have hadd : Addr.add ⟨(ν id).blk, (ν id).base + off.val, none⟩ (z.toNat * te.size) = ⟨(ν id).blk, (ν id).base + (addN (std W) off (mulN (std W) j te.size)).val, none⟩ := by
          rw [addN_val, mulN_val, hj]
          unfold Addr.add
          split
          · rename_i h; rw [h]; simp
          · simp [Nat.add_assoc]
        simp [Instr.indexAt, asIntOf, run_underlying hd, Instr.sureAddr, hz, run_size (hT e te hte), hadd]
    · rename_i e id off len c z hdd
      simp only [hdd] at hd
      cases hte : tt e with
      | none => simp [hte] at h
      | some te =>
        simp only [hte] at h
        obtain ⟨k, z, rfl, h0, h1, j, hj, hK⟩ := idxS_ok h hi
        simp only [S.ok] at hx
        obtain ⟨hid, hlc, hmx, a, rfl, ha⟩ := hx
        have ha := ha (Or.inr (by omega))
        subst ha
        refine ⟨_, _, hK, (by simp only [S.ok]; exact ⟨hid, rfl⟩), fun w => ?_⟩
        have hz : 0 ≤ z ∧ z < (len.val : Int) := by omega
        have hadd : Addr.add ⟨(ν id).blk, (ν id).base + off.val, none⟩ (z.toNat * te.size) = ⟨(ν id).blk, (ν id).base + (addN (std W) off (mulN (std W) j te.size)).val, none⟩ := by
          rw [addN_val, mulN_val, hj]
          unfold Addr.add
          split
          · rename_i h; rw [h]; simp
          · simp [Nat.add_assoc]
        simp [Instr.indexAt, asIntOf, run_underlying hd, hz, run_size (hT e te hte), hadd]
    · rename_i e id len top hdd
      simp only [hdd] at hd
      cases hte : tt e with
      | none => simp [hte] at h
      | some te =>
        simp only [hte] at h
        simp only [S.ok] at hx
        obtain ⟨hid, hlc, htop, hlen, c, _, _, rfl⟩ := hx
        obtain ⟨k, z, rfl, h0, h1, j, hj, hK⟩ := idxT_ok h hi htop
        refine ⟨_, _, hK, (by simp only [S.ok]; exact ⟨hid, by rw [hj, hlen]; exact h1, rfl⟩), fun w => ?_⟩
        have hz : 0 ≤ z ∧ z < (len.val : Int) := by omega
        have hadd : Addr.add ⟨(ν id).blk, (ν id).base, none⟩ (z.toNat * te.size) = ⟨(ν id).blk, (ν id).base + (j * te.size + 0), none⟩ := by
          rw [hj]
          unfold Addr.add
          split
          · rename_i h; rw [h]; simp
          · simp
        simp [Instr.indexAt, asIntOf, run_underlying hd, hz, run_size (hT e te hte), hadd]
    · rename_i e id len p z hdd
      simp only [hdd] at hd
      cases hte : tt e with
      | none => simp [hte] at h
      | some te =>
        simp only [hte] at h
        obtain ⟨k, z, rfl, h0, h1, j, hj, hK⟩ := idxS_ok h hi
        simp only [S.ok] at hx
        obtain ⟨hid, hl, _, hx⟩ := hx
        rcases hx with ⟨hl0, _⟩ | ⟨hl0, _, _, rfl⟩
        · omega
        refine ⟨_, _, hK, (by simp only [S.ok]; exact ⟨hid, by rw [hj]; omega, rfl⟩), fun w => ?_⟩
        have hz : 0 ≤ z ∧ z < (len.val : Int) := by omega
        have hadd : Addr.add ⟨(ν id).blk, (ν id).base, none⟩ (z.toNat * te.size) = ⟨(ν id).blk, (ν id).base + (j.val * te.size + 0), none⟩ := by
          rw [hj]
          unfold Addr.add
          split
          · rename_i h; rw [h]; simp
          · simp
        simp [Instr.indexAt, asIntOf, run_underlying hd, hz, run_size (hT e te hte), hadd]
    · rename_i e v' hdd
      simp only [hdd] at hd
      split at h
      case h_2 => exact h.elim
      rename_i te b o n cp hte
      obtain ⟨k, z, rfl, h0, h1, j, hj, hK⟩ := idxS_ok h hi
      simp only [S.ok] at hx
      subst hx
      have h1' : z.toNat < n := h1
      refine ⟨_, .pointer (some (Addr.add ⟨b, o, none⟩ (z.toNat * te.size))), hK, ?_, fun w => ?_⟩
      · simp only [S.ok, mulN_val, hj, add_addr]
      · have hz : 0 ≤ z ∧ z < (n : Int) := by omega
        simp [Instr.indexAt, asIntOf, run_underlying hd, hz, run_size (hT e te hte)]
    · rename_i n e a off hdd
      simp only [hdd] at hd
      cases hte : tt e with
      | none => simp [hte] at h
      | some te =>
        simp only [hte] at h
        obtain ⟨k, z, rfl, h0, h1, j, hj, hK⟩ := idxS_ok h hi
        simp only [S.ok] at hx
        subst hx
        have h1' : z.toNat < n := h1
        refine ⟨_, _, hK, (by simp only [S.ok]; rfl), fun w => ?_⟩
        have hz : 0 ≤ z ∧ z < (n : Int) := by omega
        have hadd : Addr.add ⟨a.block, a.off + off.val, none⟩ (z.toNat * te.size) = ⟨a.block, a.off + (addN (std W) off (mulN (std W) j te.size)).val, none⟩ := by
          rw [addN_val, mulN_val, hj]
          unfold Addr.add
          split
          · rename_i h; rw [h]; simp
          · simp [Nat.add_assoc]
        simp [Instr.indexAt, asIntOf, run_underlying hd, Instr.sureAddr, hz, run_size (hT e te hte), hadd]
    · exact h.elim
theorem fieldA_sound (hT : TOk P tt) {t : TypeId} {x r : S} {f : Nat} {v : Value} (h : fieldA (std W) tt t x f = some r) (hx : x.ok m ν v) : ∃ u, r.ok m ν u ∧ ∀ w, (Instr.fieldAt t v f).run P w = .ok u w := by
  unfold fieldA at h
  split at h
  case h_4 => cases h
  case h_1 ti id off ht =>
    have hd := (hT t ti ht).desc
    split at h
    case h_2 => cases h
    rename_i fs hdd
    simp only [hdd] at hd
    obtain ⟨fa, hu, hm, _, _⟩ := hd
    split at h
    case h_2 => cases h
    rename_i o ft hf
    cases hte : tt ft with
    | none => simp [hte] at h
    | some te =>
      simp only [hte] at h
      split at h
      · cases h
      rename_i hsz
      simp only [Option.some.injEq] at h
      subst h
      simp only [S.ok] at hx
      obtain ⟨hid, rfl⟩ := hx
      subst hm
      rw [List.getElem?_map] at hf
      cases hff : fa.toList[f]? with
      | none => simp [hff] at hf
      | some fl =>
        simp only [hff, Option.map_some, Option.some.injEq, Prod.mk.injEq] at hf
        obtain ⟨rfl, rfl⟩ := hf
        have hff' : fa[f]? = some fl := by simpa using hff
        refine ⟨_, (by simp only [S.ok]; exact ⟨hid, rfl⟩), fun w => ?_⟩
        have hadd : Addr.add ⟨(ν id).blk, (ν id).base + off.val, none⟩ fl.offset = ⟨(ν id).blk, (ν id).base + (addN (std W) off (.l fl.offset)).val, none⟩ := by
          rw [addN_val]
          unfold Addr.add
          split
          · rename_i h; simp [h, NN.val]
          · simp [Nat.add_assoc, NN.val]
        simp [Instr.fieldAt, run_underlying hu, hff', Instr.sureAddr, fieldPlace, run_size (hT _ _ hte), hsz, hadd]
  case h_2 ti a off ht =>
    have hd := (hT t ti ht).desc
    split at h
    case h_2 => cases h
    rename_i fs hdd
    simp only [hdd] at hd
    obtain ⟨fa, hu, hm, _, _⟩ := hd
    split at h
    case h_2 => cases h
    rename_i o ft hf
    cases hte : tt ft with
    | none => simp [hte] at h
    | some te =>
      simp only [hte] at h
      split at h
      · cases h
      rename_i hsz
      simp only [Option.some.injEq] at h
      subst h
      simp only [S.ok] at hx
      subst hx
      subst hm
      rw [List.getElem?_map] at hf
      cases hff : fa.toList[f]? with
      | none => simp [hff] at hf
      | some fl =>
        simp only [hff, Option.map_some, Option.some.injEq, Prod.mk.injEq] at hf
        obtain ⟨rfl, rfl⟩ := hf
        have hff' : fa[f]? = some fl := by simpa using hff
        refine ⟨_, (by simp only [S.ok]; rfl), fun w => ?_⟩
        have hadd : Addr.add ⟨a.block, a.off + off.val, none⟩ fl.offset = ⟨a.block, a.off + (addN (std W) off (.l fl.offset)).val, none⟩ := by
          rw [addN_val]
          unfold Addr.add
          split
          · rename_i h; simp [h, NN.val]
          · simp [Nat.add_assoc, NN.val]
        simp [Instr.fieldAt, run_underlying hu, hff', Instr.sureAddr, fieldPlace, run_size (hT _ _ hte), hsz, hadd]
  case h_3 ti id i sz off ht =>
    have hd := (hT t ti ht).desc
    split at h
    case h_2 => cases h
    rename_i fs hdd
    simp only [hdd] at hd
    obtain ⟨fa, hu, hm, _, _⟩ := hd
    split at h
    case h_2 => cases h
    rename_i o ft hf
    cases hte : tt ft with
    | none => simp [hte] at h
    | some te =>
      simp only [hte] at h
      split at h
      · cases h
      rename_i hsz
      simp only [Option.some.injEq] at h
      subst h
      simp only [S.ok] at hx
      obtain ⟨hid, hlt, rfl⟩ := hx
      subst hm
      rw [List.getElem?_map] at hf
      cases hff : fa.toList[f]? with
      | none => simp [hff] at hf
      | some fl =>
        simp only [hff, Option.map_some, Option.some.injEq, Prod.mk.injEq] at hf
        obtain ⟨rfl, rfl⟩ := hf
        have hff' : fa[f]? = some fl := by simpa using hff
        refine ⟨_, (by simp only [S.ok]; exact ⟨hid, hlt, rfl⟩), fun w => ?_⟩
        have hadd : Addr.add ⟨(ν id).blk, (ν id).base + (i * sz + off), none⟩ fl.offset = ⟨(ν id).blk, (ν id).base + (i * sz + (off + fl.offset)), none⟩ := by
          unfold Addr.add
          split
          · simp
          · simp [Nat.add_assoc]
        simp [Instr.fieldAt, run_underlying hu, hff', Instr.sureAddr, fieldPlace, run_size (hT _ _ hte), hsz, hadd]
theorem fieldV_sound (hT : TOk P tt) {t : TypeId} {x r : S} {f : Nat} {v : Value} (h : fieldV tt t x f = some r) (hx : x.ok m ν v) : ∃ u, r.ok m ν u ∧ ∀ w, (Instr.field t v f).run P w = .ok u w := by
  unfold fieldV at h
  split at h
  case h_2 => cases h
  case h_1 ti cs ht =>
    have hd := (hT t ti ht).desc
    split at h
    case h_2 => cases h
    rename_i fs hdd
    simp only [hdd] at hd
    obtain ⟨fa, hu, hm, _, _⟩ := hd
    split at h
    case h_2 => cases h
    rename_i o ft hf
    simp only [S.ok] at hx
    obtain ⟨vs, rfl, hc⟩ := hx
    subst hm
    rw [List.getElem?_map] at hf
    cases hff : fa.toList[f]? with
    | none => simp [hff] at hf
    | some fl =>
      simp only [hff, Option.map_some, Option.some.injEq, Prod.mk.injEq] at hf
      obtain ⟨rfl, rfl⟩ := hf
      have hff' : fa[f]? = some fl := by simpa using hff
      obtain ⟨u, h1, h2⟩ := part_ok hT h hc
      exact ⟨u, h1, fun w => by simp [Instr.field, run_underlying hu, hff', asAgg, h2]⟩
end
end Go.SX

namespace Go.SX
open Go.RowKit
section
variable {W : Addr → Nat → Nat → Option (List S)}
variable {P : Program} {tt : Nat → Option TI} {m : Nat} {ν : Nat → Env} {K : S → Prop}
theorem one_cells {s : S} {v : Value} (h : s.one = true) (hs : s.ok m ν v) : v.cells = #[v] ∧ v.oneCell' = true := by
  cases s with
  | raw u =>
    simp only [S.ok] at hs; subst hs
    cases v <;> simp [S.one] at h <;> simp [Value.cells, Value.oneCell']
  | ptr id off => simp only [S.ok] at hs; obtain ⟨_, rfl⟩ := hs; simp [Value.cells, Value.oneCell']
  | sli id off len c z => simp only [S.ok] at hs; obtain ⟨_, _, _, a, rfl, _⟩ := hs; simp [Value.cells, Value.oneCell']
  | zsl => simp only [S.ok] at hs; obtain ⟨a, rfl⟩ := hs; simp [Value.cells, Value.oneCell']
  | tsl id n top => simp only [S.ok] at hs; obtain ⟨_, _, _, _, c, _, _, rfl⟩ := hs; simp [Value.cells, Value.oneCell']
  | nsl id len p z => simp only [S.ok] at hs; obtain ⟨_, _, _, hs⟩ := hs; rcases hs with ⟨_, a, c', rfl, _⟩ | ⟨_, _, _, rfl⟩ <;> simp [Value.cells, Value.oneCell']
  | pel id i sz off => simp only [S.ok] at hs; obtain ⟨_, _, rfl⟩ := hs; simp [Value.cells, Value.oneCell']
  | fn f cs => simp only [S.ok] at hs; obtain ⟨vs, rfl, _⟩ := hs; simp [Value.cells, Value.oneCell']
  | bm f cs => simp only [S.ok] at hs; obtain ⟨vs, rfl, _⟩ := hs; simp [Value.cells, Value.oneCell']
  | ifc t x => simp only [S.ok] at hs; obtain ⟨u, rfl, _⟩ := hs; simp [Value.cells, Value.oneCell']
  | mp id => simp only [S.ok] at hs; obtain ⟨_, rfl⟩ := hs; simp [Value.cells, Value.oneCell']
  | agg cs => cases h
  | tup cs => cases h
  | un => cases h
  | junk => cases h
  | _ => simp only [S.ok] at hs; subst hs; simp [Value.cells, Value.oneCell']
theorem ones_ok : ∀ {cs : List S} {vs : List Value}, ones cs = true → oks m ν cs vs → ∀ u ∈ vs, u.oneCell' = true
  | [], vs, _, h => by simp only [S.oks] at h; subst h; simp
  | c :: cs, vs, h1, h => by
    simp only [S.oks] at h
    obtain ⟨v, r, rfl, h2, h3⟩ := h
    simp only [ones] at h1
    split at h1
    · rename_i hc
      intro u hu
      rcases List.mem_cons.1 hu with rfl | hu
      · exact (one_cells hc h2).2
      · exact ones_ok h1 h3 u hu
    · cases h1
theorem cs_ok {s : S} {v : Value} (h : ones s.cs = true) (hs : s.ok m ν v) : oks m ν s.cs v.cells.toList ∧ ∀ u ∈ v.cells.toList, u.oneCell' = true := by
  by_cases ha : ∃ cs, s = .agg cs
  · obtain ⟨cs, rfl⟩ := ha
    simp only [S.ok] at hs
    obtain ⟨vs, rfl, h2⟩ := hs
    simp only [S.cs, Value.cells] at h ⊢
    exact ⟨by simpa using h2, by simpa using ones_ok h h2⟩
  · have hc : s.cs = [s] := by cases s <;> first | rfl | exact absurd ⟨_, rfl⟩ ha
    rw [hc] at h ⊢
    simp only [ones] at h
    split at h
    · rename_i h1
      obtain ⟨h2, h3⟩ := one_cells h1 hs
      rw [h2]
      exact ⟨by simpa using oks_one hs, by simpa using h3⟩
    · cases h

theorem splice_cons (cs : List Value) (o : Nat) (v : Value) (vs : List Value) (h : o < cs.length) : (cs.set o v).take (o + 1) ++ vs ++ (cs.set o v).drop (o + 1 + vs.length) = cs.take o ++ (v :: vs) ++ cs.drop (o + (v :: vs).length) := by
  rw [List.take_succ_eq_append_getElem (by simpa using h), List.getElem_set_self, List.take_set_of_le (by omega), List.drop_set_of_lt (by omega)]
  simp [Nat.add_assoc, Nat.add_comm 1]
theorem foldl_splice (vs : List Value) : ∀ (cs : List Value) (off k : Nat), off + k + vs.length ≤ cs.length →
    (vs.zipIdx k).foldl (fun (a : Array Value) (x : Value × Nat) => a.setIfInBounds (off + x.2) x.1) cs.toArray = (cs.take (off + k) ++ vs ++ cs.drop (off + k + vs.length)).toArray := by
  induction vs with
  | nil => intro cs off k h; simp
  | cons v vs ih =>
    intro cs off k h
    simp only [List.length_cons] at h
    rw [List.zipIdx_cons, List.foldl_cons, ← splice_cons cs (off + k) v vs (by omega)]
    simp only [List.setIfInBounds_toArray]
    exact ih (cs.set (off + k) v) off (k + 1) (by simp; omega)
theorem fillS_ok {place : Nat → Option (Nat × Nat)} {ev : Operand → S} {ρ : Operand → Value} (hev : ∀ x, (ev x).ok m ν (ρ x)) : ∀ (ps : List (Nat × Operand)) {cs r : List S} {vs : List Value}, fillS place cs (ps.map fun x => (x.1, ev x.2)) = some r → oks m ν cs vs →
    ∃ us, oks m ν r us ∧ Instr.fill place vs.toArray (ps.map fun x => (x.1, ρ x.2)) = some us.toArray
  | [], cs, r, vs, h, hc => by
    simp only [List.map_nil, fillS, Option.some.injEq] at h
    subst h
    exact ⟨vs, hc, by simp [Instr.fill]⟩
  | (i, x) :: ps, cs, r, vs, h, hc => by
    simp only [List.map_cons, fillS] at h
    split at h
    case h_2 => cases h
    rename_i o sz hp
    split at h
    case isFalse => cases h
    rename_i hsz
    split at h
    case h_2 => cases h
    rename_i hon
    split at h
    case h_2 => cases h
    rename_i cs' hput
    obtain ⟨h1, h2⟩ := cs_ok hon (hev x)
    obtain ⟨h3, h4⟩ := putL_spec hput
    have hl := oks_len h1
    have hl2 := oks_len hc
    have hc' : oks m ν cs' (vs.take o ++ (ρ x).cells.toList ++ vs.drop (o + (ρ x).cells.toList.length)) := by
      rw [h3, hl]
      exact oks_append (oks_append (oks_take _ hc) h1) (oks_drop _ hc)
    obtain ⟨us, h5, h6⟩ := fillS_ok hev ps h hc'
    refine ⟨us, h5, ?_⟩
    have hsz' : (ρ x).cells.size = sz := by rw [← hsz, ← hl]; simp
    have hle : o + (ρ x).cells.size ≤ vs.length := by rw [hl2, hsz', ← hsz]; exact h4
    have e := foldl_splice (ρ x).cells.toList vs o 0 (by simpa using hle)
    simp only [List.map_cons, Instr.fill, hp]
    rw [if_neg (by simp [hsz']; omega)]
    simp only [← Array.foldl_toList] at e ⊢
    have e2 : (ρ x).cells.zipIdx.toList = (ρ x).cells.toList.zipIdx := by simp
    rw [e2]
    simp only [Nat.add_zero] at e
    rw [e]
    exact h6
theorem map_pairs (ps : Array (Nat × Operand)) (ρ : Operand → Value) : (ps.map fun (i, x) => (i, ρ x)).toList = ps.toList.map fun x => (x.1, ρ x.2) := by simp
theorem places_ok (hT : TOk P tt) : ∀ (fa : List Field), allT tt (fa.map fun f => (f.offset, f.type)) = true →
    ∃ pl, fa.mapM (fun f => (P.info? f.type).map fun i => (f.offset, i.size)) = some pl ∧ ∀ i, pl[i]? = fplace tt (fa.map fun f => (f.offset, f.type)) i
  | [], _ => ⟨[], by simp, fun i => by simp [fplace]⟩
  | f :: fa, h => by
    simp only [List.map_cons, allT] at h
    cases ht : tt f.type with
    | none => simp [ht] at h
    | some ti =>
      simp only [ht] at h
      obtain ⟨pl, h1, h2⟩ := places_ok hT fa h
      obtain ⟨i0, z, vs, h3, h4, _⟩ := (hT _ _ ht).info
      refine ⟨(f.offset, ti.size) :: pl, ?_, fun i => ?_⟩
      · simp [List.mapM_cons, h3, h4, h1]
      · cases i with
        | zero => simp [fplace, ht]
        | succ i => have := h2 i; simpa [fplace] using this
theorem buildV_sound (hT : TOk P tt) {t : TypeId} {ps : Array (Nat × Operand)} {ev : Operand → S} {ρ : Operand → Value} {r : S} (hev : ∀ x, (ev x).ok m ν (ρ x)) (h : buildV tt t (ps.toList.map fun x => (x.1, ev x.2)) = some r) :
    ∃ u, r.ok m ν u ∧ ∀ w, (Instr.build t (ps.map fun (i, x) => (i, ρ x))).run P w = .ok u w := by
  unfold buildV at h
  split at h
  case h_2 => cases h
  rename_i ti ht
  have hti := hT t ti ht
  have hd := hti.desc
  obtain ⟨z, zs, hz, hzo, hzr⟩ := run_zero hti
  split at h
  · rename_i fs hdd
    simp only [hdd] at hd
    obtain ⟨fa, hu, hm, _, _⟩ := hd
    split at h
    case h_2 => cases h
    rename_i cs hall hf
    simp only [Option.some.injEq] at h
    subst h
    obtain ⟨us, h1, h2⟩ := fillS_ok hev ps.toList hf (hzo m ν)
    refine ⟨.agg us.toArray, by simp only [S.ok]; exact ⟨us, rfl, h1⟩, fun w => ?_⟩
    subst hm
    obtain ⟨pl, h3, h4⟩ := places_ok hT fa.toList hall
    have h5 : (fun i => pl[i]?) = fplace tt (fa.toList.map fun f => (f.offset, f.type)) := by funext i; exact h4 i
    have h6 := run_places w fa.toList pl h3
    simp only [Instr.build, Sem.run_bind, hzr, Result.andThen_ok, run_underlying hu, hz]
    rw [Array.mapM_eq_mapM_toList]
    simp only [bind_pure_comp] at h6 ⊢
    simp [h6, h5, h2]
  · rename_i n e hdd
    simp only [hdd] at hd
    split at h
    case h_2 => cases h
    rename_i te hte
    split at h
    case h_2 => cases h
    rename_i cs hf
    simp only [Option.some.injEq] at h
    subst h
    obtain ⟨us, h1, h2⟩ := fillS_ok hev ps.toList hf (hzo m ν)
    refine ⟨.agg us.toArray, by simp only [S.ok]; exact ⟨us, rfl, h1⟩, fun w => ?_⟩
    simp only [Instr.build, Sem.run_bind, hzr, Result.andThen_ok, run_underlying hd, hz, run_size (hT e te hte), map_pairs, h2, Sem.run_pure]
  · cases h

theorem idxVal_sound (hT : TOk P tt) {t : TypeId} {x i : S} {v u : Value} (h : idxVal (std W) tt t x i K) (hx : x.ok m ν v) (hi : i.ok m ν u) : Gives P m ν (Instr.index t v u) K := by
  unfold idxVal at h
  split at h
  · rename_i ti cs ht
    have hd := (hT t ti ht).desc
    split at h
    case h_2 => exact h.elim
    rename_i n e hdd
    simp only [hdd] at hd
    split at h
    case h_2 => exact h.elim
    rename_i te hte
    obtain ⟨k, z, rfl, h0, h1, j, hj, hK⟩ := idxS_ok h hi
    split at hK
    case h_2 => exact hK.elim
    rename_i j'
    obtain ⟨s, hs, hK2⟩ := someK_iff hK
    simp only [S.ok] at hx
    obtain ⟨vs, rfl, hc⟩ := hx
    obtain ⟨r, h2, h3⟩ := part_ok hT hs hc
    simp only [NN.val] at h1 hj
    subst hj
    have hz : 0 ≤ z ∧ z < (n : Int) := by omega
    exact ⟨s, r, hK2, h2, fun w => by simp [Instr.index, asIntOf, run_underlying hd, hz, run_size (hT e te hte), h3]⟩
  · rename_i ti l ht
    split at h
    case h_2 => exact h.elim
    rename_i hdd
    have hd := (hT t ti ht).desc
    simp only [hdd] at hd
    obtain ⟨k, z, rfl, h0, h1, j, hj, hK⟩ := idxS_ok h hi
    split at hK
    case h_2 => exact hK.elim
    rename_i j'
    split at hK
    case h_2 => exact hK.elim
    rename_i b hb
    simp only [S.ok] at hx
    subst hx
    simp only [NN.val] at h1 hj
    subst hj
    refine ⟨_, _, hK, (by simp only [S.ok]; rfl), fun w => ?_⟩
    have hb' : (⟨l.toArray⟩ : ByteArray)[z.toNat]? = some b := by
      obtain ⟨hlt, hb⟩ := List.getElem?_eq_some_iff.1 hb
      have : z.toNat < (⟨l.toArray⟩ : ByteArray).size := by simpa [ByteArray.size] using hlt
      rw [getElem?_pos (⟨l.toArray⟩ : ByteArray) z.toNat this]
      simpa [ByteArray.getElem_eq_getElem_data] using hb
    simp [Instr.index, asIntOf, run_underlying hd, h0, hb']
  · exact h.elim
def optOk (m : Nat) (ν : Nat → Env) : Option S → Option Value → Prop
  | none, none => True
  | some s, some u => s.ok m ν u
  | _, _ => False
theorem optOk_map {ev : Operand → S} {ρ : Operand → Value} (hev : ∀ x, (ev x).ok m ν (ρ x)) (x : Option Operand) : optOk m ν (x.map ev) (x.map ρ) := by
  cases x with
  | none => trivial
  | some x => exact hev x
theorem boundS_ok {v : Option S} {vo : Option Value} {d top : NN} {K : NN → Prop} (hv : optOk m ν v vo) (h : boundS (std W) v d top K) :
    ∃ j : NN, K j ∧ ((vo = none ∧ v = none ∧ j = d) ∨ ∃ k z, vo = some (.int k z) ∧ 0 ≤ z ∧ j.val = z.toNat ∧ j.val ≤ top.val) := by
  unfold boundS at h
  cases v with
  | none =>
    cases vo with
    | none => exact ⟨d, h, Or.inl ⟨rfl, rfl, rfl⟩⟩
    | some u => exact hv.elim
  | some s =>
    cases vo with
    | none => exact hv.elim
    | some u =>
      simp only at h
      split at h
      case h_2 => exact h.elim
      rename_i lit z hs
      obtain ⟨k, rfl⟩ := symS_ok hs hv
      obtain ⟨h0, h1⟩ := ifP h id
      obtain ⟨h2, h3⟩ := ifP h1 id
      rw [tb_std] at h0
      simp only [stdB, decide_eq_true_eq] at h0
      rw [leZ_std h0, decide_eq_true_eq, ← natS_val (W := W) lit z] at h2
      exact ⟨_, h3, Or.inr ⟨k, z, rfl, h0, natS_val _ _, h2⟩⟩
theorem run_bound {k : IntKind} {z : Int} {y : Nat} (c : BoundsCode) (h0 : 0 ≤ z) (h1 : z.toNat ≤ y) (w : World) : (Instr.sliceBound (.int k z) y c).run P w = .ok z.toNat w := by
  have : 0 ≤ z ∧ z ≤ (y : Int) := by omega
  simp [Instr.sliceBound, asIntOf, this]
theorem run_bounds {lo hi : Option Value} {l h : NN} {len cap : Nat} (b : Bool)
    (hh : (hi = none ∧ h.val = len) ∨ ∃ k z, hi = some (.int k z) ∧ 0 ≤ z ∧ h.val = z.toNat ∧ h.val ≤ cap)
    (hl : (lo = none ∧ l.val = 0) ∨ ∃ k z, lo = some (.int k z) ∧ 0 ≤ z ∧ l.val = z.toNat ∧ l.val ≤ h.val) (w : World) :
    (Instr.sliceBounds b len cap lo hi none).run P w = .ok (l.val, h.val, cap) w := by
  rcases hh with ⟨rfl, hh⟩ | ⟨k, z, rfl, h0, h1, h2⟩ <;> rcases hl with ⟨rfl, hl⟩ | ⟨k', z', rfl, h0', h1', h2'⟩
  · simp [Instr.sliceBounds, hh, hl]
  · simp [Instr.sliceBounds, ← hh, run_bound _ h0' (show z'.toNat ≤ h.val by omega), h1']
  · simp [Instr.sliceBounds, run_bound _ h0 (show z.toNat ≤ cap by omega), h1, hl]
  · simp [Instr.sliceBounds, run_bound _ h0 (show z.toNat ≤ cap by omega), h1, run_bound _ h0' (show z'.toNat ≤ z.toNat by omega), h1']
theorem run_bounds3 {lo hi mx : Option Value} {l h x : NN} {len cap : Nat}
    (hm : ∃ k z, mx = some (.int k z) ∧ 0 ≤ z ∧ x.val = z.toNat ∧ x.val ≤ cap)
    (hh : ∃ k z, hi = some (.int k z) ∧ 0 ≤ z ∧ h.val = z.toNat ∧ h.val ≤ x.val)
    (hl : (lo = none ∧ l.val = 0) ∨ ∃ k z, lo = some (.int k z) ∧ 0 ≤ z ∧ l.val = z.toNat ∧ l.val ≤ h.val) (w : World) :
    (Instr.sliceBounds true len cap lo hi mx).run P w = .ok (l.val, h.val, x.val) w := by
  obtain ⟨k3, z3, rfl, g0, g1, g2⟩ := hm
  obtain ⟨k, z, rfl, h0, h1, h2⟩ := hh
  rcases hl with ⟨rfl, hl⟩ | ⟨k', z', rfl, h0', h1', h2'⟩
  · simp [Instr.sliceBounds, run_bound _ g0 (show z3.toNat ≤ cap by omega), run_bound _ h0 (show z.toNat ≤ z3.toNat by omega), g1, h1, hl]
  · simp [Instr.sliceBounds, run_bound _ g0 (show z3.toNat ≤ cap by omega), run_bound _ h0 (show z.toNat ≤ z3.toNat by omega), g1, h1, run_bound _ h0' (show z'.toNat ≤ z.toNat by omega), h1']
theorem cap_cut (e : Env) (c : Cap) (l : NN) : (capS (std W) c l).val e = c.val e - l.val := by
  cases c with
  | lit n => simp [capS, Cap.val, subN_val]
  | rest k => simp only [capS, Cap.val, addN_val]; omega
theorem zS_false {l : NN} {z : Bool} (h : zS l z = false) : l.val = 0 ∧ z = false := by
  unfold zS at h
  split at h
  · exact ⟨rfl, h⟩
  · cases h
theorem sliceS_sound (hT : TOk P tt) {t : TypeId} {x : S} {lo hi mx : Option S} {v : Value} {lov hiv mxv : Option Value} (h : sliceS (std W) tt t x lo hi mx K) (hx : x.ok m ν v) (hlo : optOk m ν lo lov) (hhi : optOk m ν hi hiv) (hmx : optOk m ν mx mxv) :
    Gives P m ν (Instr.sliceAt t v lov hiv mxv) K := by
  unfold sliceS at h
  cases ht : tt t with
  | none => simp [ht] at h
  | some ti =>
  have hd := (hT t ti ht).desc
  simp only [ht] at h
  split at h
  · -- a slice
    rename_i e id off len c z hdd
    simp only [hdd] at hd
    cases mxv with
    | some u => exact hmx.elim
    | none =>
    cases hte : tt e with
    | none => simp [hte] at h
    | some te =>
    simp only [hte] at h
    obtain ⟨hN, h1, hh⟩ := boundS_ok hhi h
    obtain ⟨lN, hK, hl⟩ := boundS_ok hlo h1
    simp only [S.ok] at hx
    obtain ⟨hid, hlc, hmx, a, rfl, ha⟩ := hx
    have htop : (topS c len).val ≤ c.val (ν id) := by
      cases c with
      | lit n => simp [topS, Cap.val]
      | rest k => simpa [topS] using hlc
    have hhc : hN.val ≤ c.val (ν id) := by
      rcases hh with ⟨_, _, rfl⟩ | ⟨k, z, _, _, _, h5⟩
      · exact hlc
      · omega
    have hll : lN.val ≤ hN.val := by
      rcases hl with ⟨_, _, rfl⟩ | ⟨k, z, _, _, _, h5⟩
      · exact Nat.zero_le _
      · exact h5
    have hr := fun w => run_bounds (P := P) (lo := lov) (hi := hiv) (l := lN) (h := hN) (len := len.val) (cap := c.val (ν id)) true
      (by rcases hh with ⟨h3, _, rfl⟩ | ⟨k, z, h3, h4, h5, h6⟩
          · exact Or.inl ⟨h3, rfl⟩
          · exact Or.inr ⟨k, z, h3, h4, h5, hhc⟩)
      (by rcases hl with ⟨h3, _, rfl⟩ | ⟨k, z, h3, h4, h5, h6⟩
          · exact Or.inl ⟨h3, rfl⟩
          · exact Or.inr ⟨k, z, h3, h4, h5, h6⟩) w
    refine ⟨_, .slice (some (if c.val (ν id) = lN.val then a else a.add (lN.val * te.size))) (hN.val - lN.val) (c.val (ν id) - lN.val), hK, ?_, fun w => ?_⟩
    · simp only [S.ok, cap_cut, subN_val]
      refine ⟨hid, by omega, by omega, _, rfl, fun hz => ?_⟩
      rw [addN_val, mulN_val]
      rcases hz with hz | hz
      · obtain ⟨hz0, rfl⟩ := zS_false hz
        rw [hz0]
        have := ha (Or.inl rfl)
        subst this
        split <;> simp [add_addr]
      · have := ha (Or.inr (by omega))
        subst this
        rw [if_neg (by omega), add_addr, Nat.add_assoc]
    · simp only [Instr.sliceAt, Sem.run_bind, run_underlying hd, Result.andThen_ok, Instr.slice, hr, run_size (hT e te hte), Sem.run_pure]
      split <;> simp_all
  · -- with a third bound
    rename_i e id off len c z mm hdd
    simp only [hdd] at hd
    cases mxv with
    | none => exact hmx.elim
    | some u =>
    cases hte : tt e with
    | none => simp [hte] at h
    | some te =>
    simp only [hte] at h
    obtain ⟨xN, h0, hm⟩ := boundS_ok hmx h
    obtain ⟨hN, h1, hh⟩ := boundS_ok hhi h0
    obtain ⟨lN, hK, hl⟩ := boundS_ok hlo h1
    cases hi with
    | none => exact hK.elim
    | some hi0 =>
    simp only at hK
    simp only [S.ok] at hx
    obtain ⟨hid, hlc, hmxl, a, rfl, ha⟩ := hx
    have htop : (topS c len).val ≤ c.val (ν id) := by
      cases c with
      | lit n => simp [topS, Cap.val]
      | rest k => simpa [topS] using hlc
    rcases hm with ⟨h3, _, _⟩ | ⟨k3, z3, h3, h4, h5, h6⟩
    · cases h3
    rcases hh with ⟨_, h7, _⟩ | ⟨k2, z2, g3, g4, g5, g6⟩
    · cases h7
    have hll : lN.val ≤ hN.val := by
      rcases hl with ⟨_, _, rfl⟩ | ⟨k, z, _, _, _, h5⟩
      · exact Nat.zero_le _
      · exact h5
    have hr := fun w => run_bounds3 (P := P) (lo := lov) (hi := hiv) (mx := some u) (l := lN) (h := hN) (x := xN) (len := len.val) (cap := c.val (ν id))
      ⟨k3, z3, h3, h4, h5, by omega⟩ ⟨k2, z2, g3, g4, g5, g6⟩
      (by rcases hl with ⟨h3, _, rfl⟩ | ⟨k, z, h3, h4, h5, h6⟩
          · exact Or.inl ⟨h3, rfl⟩
          · exact Or.inr ⟨k, z, h3, h4, h5, h6⟩) w
    refine ⟨_, .slice (some (if xN.val = lN.val then a else a.add (lN.val * te.size))) (hN.val - lN.val) (xN.val - lN.val), hK, ?_, fun w => ?_⟩
    · simp only [S.ok, Cap.val, subN_val]
      refine ⟨hid, by omega, by omega, _, rfl, fun hz => ?_⟩
      rw [addN_val, mulN_val]
      rcases hz with hz | hz
      · obtain ⟨hz0, rfl⟩ := zS_false hz
        rw [hz0]
        have := ha (Or.inl rfl)
        subst this
        split <;> simp [add_addr]
      · have := ha (Or.inr (by omega))
        subst this
        rw [if_neg (by omega), add_addr, Nat.add_assoc]
    · simp only [Instr.sliceAt, Sem.run_bind, run_underlying hd, Result.andThen_ok, Instr.slice, hr, run_size (hT e te hte), Sem.run_pure]
      split <;> simp_all
  · -- a nil slice
    rename_i e v' hdd
    simp only [hdd] at hd
    cases mxv with
    | some u => exact hmx.elim
    | none =>
    split at h
    case h_3 => exact h.elim
    · rename_i a n c
      split at h
      case h_2 => exact h.elim
      rename_i te hte
      obtain ⟨hnc, h⟩ := ifP h (fun x => x)
      rw [leN_std, decide_eq_true_eq] at hnc
      have hnc' : n ≤ c := hnc
      obtain ⟨hN, hK, hh⟩ := boundS_ok hhi h
      simp only [S.ok] at hx
      subst hx
      have hlo' : lov = none := by cases lov with
        | none => rfl
        | some u => exact hlo.elim
      subst hlo'
      have hhc : hN.val ≤ c := by
        rcases hh with ⟨_, _, rfl⟩ | ⟨k, z, _, _, _, h5⟩
        · exact hnc'
        · have h5' : hN.val ≤ n := h5; omega
      have hr := fun w => run_bounds (P := P) (lo := none) (hi := hiv) (l := .l 0) (h := hN) (len := n) (cap := c) true
        (by rcases hh with ⟨h3, _, rfl⟩ | ⟨k, z, h3, h4, h5, h6⟩
            · exact Or.inl ⟨h3, rfl⟩
            · exact Or.inr ⟨k, z, h3, h4, h5, hhc⟩)
        (Or.inl ⟨rfl, rfl⟩) w
      refine ⟨_, .slice (some a) hN.val c, hK, by simp only [S.ok], fun w => ?_⟩
      have nl0 : (NN.l 0).val = 0 := rfl
      simp only [Instr.sliceAt, Sem.run_bind, run_underlying hd, Result.andThen_ok, Instr.slice, hr, run_size (hT e te hte), Sem.run_pure, nl0]
      simp
      intro _
      unfold Addr.add
      simp
    cases hte : tt e with
    | none => simp [hte] at h
    | some te =>
    simp only [hte] at h
    obtain ⟨hN, h1, hh⟩ := boundS_ok hhi h
    obtain ⟨lN, hK, hl⟩ := boundS_ok hlo h1
    simp only [S.ok] at hx
    subst hx
    have hh0 : hN.val = 0 := by
      rcases hh with ⟨_, _, rfl⟩ | ⟨k, z, _, _, _, h5⟩
      · rfl
      · exact Nat.le_zero.1 h5
    have hl0 : lN.val = 0 := by
      rcases hl with ⟨_, _, rfl⟩ | ⟨k, z, _, _, _, h5⟩
      · rfl
      · omega
    have hr := fun w => run_bounds (P := P) (lo := lov) (hi := hiv) (l := lN) (h := hN) (len := 0) (cap := 0) true
      (by rcases hh with ⟨h3, _, rfl⟩ | ⟨k, z, h3, h4, h5, h6⟩
          · exact Or.inl ⟨h3, rfl⟩
          · exact Or.inr ⟨k, z, h3, h4, h5, h6⟩)
      (by rcases hl with ⟨h3, _, rfl⟩ | ⟨k, z, h3, h4, h5, h6⟩
          · exact Or.inl ⟨h3, rfl⟩
          · exact Or.inr ⟨k, z, h3, h4, h5, h6⟩) w
    refine ⟨_, .slice none 0 0, hK, by simp only [S.ok], fun w => ?_⟩
    simp only [Instr.sliceAt, Sem.run_bind, run_underlying hd, Result.andThen_ok, Instr.slice, hr, run_size (hT e te hte), Sem.run_pure, hh0, hl0]
    simp
  · -- a nil slice, three indexes
    rename_i e v' mm hdd
    simp only [hdd] at hd
    cases mxv with
    | none => exact hmx.elim
    | some u =>
    split at h
    case h_2 => exact h.elim
    cases hte : tt e with
    | none => simp [hte] at h
    | some te =>
    simp only [hte] at h
    obtain ⟨xN, h0, hm⟩ := boundS_ok hmx h
    obtain ⟨hN, h1, hh⟩ := boundS_ok hhi h0
    obtain ⟨lN, hK, hl⟩ := boundS_ok hlo h1
    cases hi with
    | none => exact hK.elim
    | some hi0 =>
    simp only at hK
    simp only [S.ok] at hx
    subst hx
    rcases hm with ⟨h3, _, _⟩ | ⟨k3, z3, h3, h4, h5, h6⟩
    · cases h3
    rcases hh with ⟨_, h7, _⟩ | ⟨k2, z2, g3, g4, g5, g6⟩
    · cases h7
    have hx0 : xN.val = 0 := Nat.le_zero.1 h6
    have hh0 : hN.val = 0 := by omega
    have hl0 : lN.val = 0 := by
      rcases hl with ⟨_, _, rfl⟩ | ⟨k, z, _, _, _, h5⟩
      · rfl
      · omega
    have hr := fun w => run_bounds3 (P := P) (lo := lov) (hi := hiv) (mx := some u) (l := lN) (h := hN) (x := xN) (len := 0) (cap := 0)
      ⟨k3, z3, h3, h4, h5, by omega⟩ ⟨k2, z2, g3, g4, g5, g6⟩
      (by rcases hl with ⟨h3, _, rfl⟩ | ⟨k, z, h3, h4, h5, h6⟩
          · exact Or.inl ⟨h3, rfl⟩
          · exact Or.inr ⟨k, z, h3, h4, h5, h6⟩) w
    refine ⟨_, .slice none 0 0, hK, by simp only [S.ok], fun w => ?_⟩
    simp only [Instr.sliceAt, Sem.run_bind, run_underlying hd, Result.andThen_ok, Instr.slice, hr, run_size (hT e te hte), Sem.run_pure, hh0, hl0, hx0]
    simp
  · -- a text
    rename_i s hdd
    simp only [hdd] at hd
    cases mxv with
    | some u => exact hmx.elim
    | none =>
    obtain ⟨hN, h1, hh⟩ := boundS_ok hhi h
    obtain ⟨lN, hK, hl⟩ := boundS_ok hlo h1
    split at hK
    case h_2 => exact hK.elim
    rename_i l0 h0
    simp only [S.ok] at hx
    subst hx
    have hhc : h0 ≤ s.length := by
      rcases hh with ⟨_, _, h5⟩ | ⟨k, z, _, _, _, h5⟩
      · simp only [NN.l.injEq] at h5; omega
      · exact h5
    have hr := fun w => run_bounds (P := P) (lo := lov) (hi := hiv) (l := .l l0) (h := .l h0) (len := s.length) (cap := s.length) false
      (by rcases hh with ⟨h3, _, h4⟩ | ⟨k, z, h3, h4, h5, h6⟩
          · exact Or.inl ⟨h3, by rw [h4]; rfl⟩
          · exact Or.inr ⟨k, z, h3, h4, h5, h6⟩)
      (by rcases hl with ⟨h3, _, h4⟩ | ⟨k, z, h3, h4, h5, h6⟩
          · exact Or.inl ⟨h3, by rw [h4]; rfl⟩
          · exact Or.inr ⟨k, z, h3, h4, h5, h6⟩) w
    refine ⟨_, .string ⟨((s.take h0).drop l0).toArray⟩, hK, by simp only [S.ok], fun w => ?_⟩
    have hsz : (⟨s.toArray⟩ : ByteArray).size = s.length := by simp [ByteArray.size]
    simp only [Instr.sliceAt, Sem.run_bind, run_underlying hd, Result.andThen_ok, Instr.slice, hsz, hr, Option.isSome_none, Bool.false_eq_true, if_false, NN.val, Sem.run_pure]
    congr 2
    apply ByteArray.ext
    simp only [ByteArray.data_extract, List.extract_toArray, List.extract_eq_take_drop]
    rw [List.drop_take]
  · -- an array
    rename_i n e id off hdd
    simp only [hdd] at hd
    cases mxv with
    | some u => exact hmx.elim
    | none =>
    cases hte : tt e with
    | none => simp [hte] at h
    | some te =>
    simp only [hte] at h
    obtain ⟨hn16, h⟩ := ifP h (fun x => x)
    obtain ⟨hN, h1, hh⟩ := boundS_ok hhi h
    obtain ⟨lN, hK, hl⟩ := boundS_ok hlo h1
    simp only [S.ok] at hx
    obtain ⟨hid, rfl⟩ := hx
    have hhc : hN.val ≤ n := by
      rcases hh with ⟨_, _, rfl⟩ | ⟨k, z, _, _, _, h5⟩
      · exact Nat.le_refl _
      · exact h5
    have hll : lN.val ≤ hN.val := by
      rcases hl with ⟨_, _, rfl⟩ | ⟨k, z, _, _, _, h5⟩
      · exact Nat.zero_le _
      · exact h5
    have hr := fun w => run_bounds (P := P) (lo := lov) (hi := hiv) (l := lN) (h := hN) (len := n) (cap := n) false
      (by rcases hh with ⟨h3, _, rfl⟩ | ⟨k, z, h3, h4, h5, h6⟩
          · exact Or.inl ⟨h3, rfl⟩
          · exact Or.inr ⟨k, z, h3, h4, h5, h6⟩)
      (by rcases hl with ⟨h3, _, rfl⟩ | ⟨k, z, h3, h4, h5, h6⟩
          · exact Or.inl ⟨h3, rfl⟩
          · exact Or.inr ⟨k, z, h3, h4, h5, h6⟩) w
    have hn : n ≤ maxLen := Nat.le_trans hn16 (by decide)
    · refine ⟨_, .slice (some (if n = lN.val then ⟨(ν id).blk, (ν id).base + off.val, none⟩ else Addr.add ⟨(ν id).blk, (ν id).base + off.val, none⟩ (lN.val * te.size))) (hN.val - lN.val) (n - lN.val), hK, ?_, fun w => ?_⟩
      · have hnv : (NN.l n).val = n := rfl
        simp only [S.ok, Cap.val, subN_val, hnv]
        refine ⟨hid, by omega, by omega, _, rfl, fun hz => ?_⟩
        rw [addN_val, mulN_val]
        rcases hz with hz | hz
        · obtain ⟨hz0, _⟩ := zS_false hz
          rw [hz0]
          split <;> simp [add_addr]
        · rw [if_neg (by omega), add_addr, Nat.add_assoc]
      · simp only [Instr.sliceAt, Sem.run_bind, run_underlying hd, Result.andThen_ok, Instr.sureAddr, hr, run_size (hT e te hte), Sem.run_pure]
  · -- of a row of numbers
    rename_i e id len p0 z0 hdd
    simp only [hdd] at hd
    cases mxv with
    | some u => exact hmx.elim
    | none =>
    cases hte : tt e with
    | none => simp [hte] at h
    | some te =>
    cases lo with
    | some l => simp [hte] at h
    | none =>
    cases lov with
    | some u => exact hlo.elim
    | none =>
    simp only [hte] at h
    obtain ⟨hN, hK, hh⟩ := boundS_ok hhi h
    simp only [S.ok] at hx
    obtain ⟨hid, hle, hp, hx⟩ := hx
    have hhl : hN.val ≤ len.val := by
      rcases hh with ⟨_, _, rfl⟩ | ⟨k, z, _, _, _, h5⟩
      · exact Nat.le_refl _
      · exact h5
    rcases hx with ⟨h0, a, c', rfl, ha⟩ | ⟨h0, hc1, hc2, rfl⟩
    · have hh0 : hN.val = 0 := by omega
      have hr := fun w => run_bounds (P := P) (lo := none) (hi := hiv) (l := .l 0) (h := hN) (len := 0) (cap := c') true
        (by rcases hh with ⟨h3, _, h4⟩ | ⟨k, z, h3, h4, h5, h6⟩
            · exact Or.inl ⟨h3, hh0⟩
            · exact Or.inr ⟨k, z, h3, h4, h5, by omega⟩)
        (Or.inl ⟨rfl, rfl⟩) w
      have nl0 : (NN.l 0).val = 0 := rfl
      have key : ∃ a', ∀ w, (Instr.sliceAt t (.slice a 0 c') none hiv none).run P w = .ok (.slice a' 0 c') w := by
        cases a with
        | none =>
          refine ⟨none, fun w => ?_⟩
          simp only [Instr.sliceAt, Sem.run_bind, run_underlying hd, Result.andThen_ok, Instr.slice, hr, run_size (hT e te hte), Sem.run_pure, hh0, nl0]
          simp
        | some a =>
          refine ⟨some a, fun w => ?_⟩
          simp only [Instr.sliceAt, Sem.run_bind, run_underlying hd, Result.andThen_ok, Instr.slice, hr, run_size (hT e te hte), Sem.run_pure, hh0, nl0]
          simp
          intro _
          unfold Addr.add
          simp
      obtain ⟨a', hrun⟩ := key
      refine ⟨_, _, hK, ?_, hrun⟩
      simp only [S.ok]
      exact ⟨hid, by omega, (fun h => by cases h), Or.inl ⟨h0, a', c', rfl, (fun h => by cases h)⟩⟩
    · have hr := fun w => run_bounds (P := P) (lo := none) (hi := hiv) (l := .l 0) (h := hN) (len := len.val) (cap := (ν id).cap) true
        (by rcases hh with ⟨h3, _, rfl⟩ | ⟨k, z, h3, h4, h5, h6⟩
            · exact Or.inl ⟨h3, rfl⟩
            · exact Or.inr ⟨k, z, h3, h4, h5, by omega⟩)
        (Or.inl ⟨rfl, rfl⟩) w
      have nl0 : (NN.l 0).val = 0 := rfl
      refine ⟨_, .slice (some ⟨(ν id).blk, (ν id).base, none⟩) hN.val (ν id).cap, hK, ?_, fun w => ?_⟩
      · simp only [S.ok]
        exact ⟨hid, by omega, (fun h => by cases h), Or.inr ⟨h0, hc1, hc2, trivial⟩⟩
      · simp only [Instr.sliceAt, Sem.run_bind, run_underlying hd, Result.andThen_ok, Instr.slice, hr, run_size (hT e te hte), Sem.run_pure, nl0]
        simp
        intro _
        unfold Addr.add
        simp
  · -- of a row of numbers, to nothing
    rename_i e id len p0 z0 mm hdd
    simp only [hdd] at hd
    cases mxv with
    | none => exact hmx.elim
    | some u =>
    cases hte : tt e with
    | none => simp [hte] at h
    | some te =>
    simp only [hte] at h
    obtain ⟨xN, h0, hm⟩ := boundS_ok hmx h
    obtain ⟨hN, h1, hh⟩ := boundS_ok hhi h0
    obtain ⟨lN, hK, hl⟩ := boundS_ok hlo h1
    cases hi with
    | none => exact hK.elim
    | some hi0 =>
    simp only at hK
    simp only [S.ok] at hx
    obtain ⟨hid, hle, hp, hx⟩ := hx
    rcases hm with ⟨h3, _, _⟩ | ⟨k3, z3, h3, h4, h5, h6⟩
    · cases h3
    rcases hh with ⟨_, h7, _⟩ | ⟨k2, z2, g3, g4, g5, g6⟩
    · cases h7
    have hx0 : xN.val = 0 := Nat.le_zero.1 h6
    have hh0 : hN.val = 0 := by omega
    have hl0 : lN.val = 0 := by
      rcases hl with ⟨_, _, rfl⟩ | ⟨k, z, _, _, _, h5⟩
      · rfl
      · omega
    rcases hx with ⟨_, a, c', rfl, _⟩ | ⟨_, hc1, hc2, rfl⟩
    · have hr := fun w => run_bounds3 (P := P) (lo := lov) (hi := hiv) (mx := some u) (l := lN) (h := hN) (x := xN) (len := 0) (cap := c')
        ⟨k3, z3, h3, h4, h5, by omega⟩ ⟨k2, z2, g3, g4, g5, g6⟩
        (by rcases hl with ⟨h3, _, rfl⟩ | ⟨k, z, h3, h4, h5, h6⟩
            · exact Or.inl ⟨h3, rfl⟩
            · exact Or.inr ⟨k, z, h3, h4, h5, h6⟩) w
      have key : ∃ a', ∀ w, (Instr.sliceAt t (.slice a 0 c') lov hiv (some u)).run P w = .ok (.slice a' 0 0) w := by
        cases a with
        | none =>
          refine ⟨none, fun w => ?_⟩
          simp only [Instr.sliceAt, Sem.run_bind, run_underlying hd, Result.andThen_ok, Instr.slice, hr, run_size (hT e te hte), Sem.run_pure, hh0, hl0, hx0]
          simp
        | some a =>
          refine ⟨some a, fun w => ?_⟩
          simp only [Instr.sliceAt, Sem.run_bind, run_underlying hd, Result.andThen_ok, Instr.slice, hr, run_size (hT e te hte), Sem.run_pure, hh0, hl0, hx0]
          simp
      obtain ⟨a', hrun⟩ := key
      exact ⟨_, _, hK, by simp only [S.ok]; exact ⟨a', rfl⟩, hrun⟩
    · have hr := fun w => run_bounds3 (P := P) (lo := lov) (hi := hiv) (mx := some u) (l := lN) (h := hN) (x := xN) (len := len.val) (cap := (ν id).cap)
        ⟨k3, z3, h3, h4, h5, by omega⟩ ⟨k2, z2, g3, g4, g5, g6⟩
        (by rcases hl with ⟨h3, _, rfl⟩ | ⟨k, z, h3, h4, h5, h6⟩
            · exact Or.inl ⟨h3, rfl⟩
            · exact Or.inr ⟨k, z, h3, h4, h5, h6⟩) w
      refine ⟨_, .slice (some ⟨(ν id).blk, (ν id).base, none⟩) 0 0, hK, by simp only [S.ok]; exact ⟨_, rfl⟩, fun w => ?_⟩
      simp only [Instr.sliceAt, Sem.run_bind, run_underlying hd, Result.andThen_ok, Instr.slice, hr, run_size (hT e te hte), Sem.run_pure, hh0, hl0, hx0]
      simp
  · exact h.elim

theorem lenS_sound (hT : TOk P tt) {t : TypeId} {ti : TI} (ht : tt t = some ti) {x : S} {n : NN} {v : Value} {ty : TypeId} (h : lenS ti.d x = some n) (hx : x.ok m ν v) (w : World) : (Builtin.len_ #[t] ty #[v]).run P w = .ok (goInt n.val) w := by
  have hd := (hT t ti ht).desc
  unfold lenS at h
  split at h
  · rename_i hdd; simp only [hdd] at hd
    simp only [Option.some.injEq] at h; subst h
    simp only [S.ok] at hx
    obtain ⟨_, _, _, a, rfl, _⟩ := hx
    simp [Builtin.len_, run_underlying hd]
  · rename_i hdd; simp only [hdd] at hd
    simp only [Option.some.injEq] at h; subst h
    simp only [S.ok] at hx
    obtain ⟨_, hl, _, hx⟩ := hx
    rcases hx with ⟨h0, a, c', rfl, _⟩ | ⟨_, _, _, rfl⟩
    · have h1 := Nat.eq_zero_of_le_zero (Nat.le_trans hl (Nat.le_of_eq h0))
      simp [Builtin.len_, run_underlying hd, h1]
    · simp [Builtin.len_, run_underlying hd]
  · rename_i hdd; simp only [hdd] at hd
    simp only [Option.some.injEq] at h; subst h
    simp only [S.ok] at hx
    obtain ⟨a, rfl⟩ := hx
    simp [Builtin.len_, run_underlying hd, NN.val]
  · rename_i hdd; simp only [hdd] at hd
    simp only [Option.some.injEq] at h; subst h
    simp only [S.ok] at hx
    obtain ⟨_, _, _, _, c, _, _, rfl⟩ := hx
    simp [Builtin.len_, run_underlying hd]
  · rename_i hdd; simp only [hdd] at hd
    split at h
    · simp only [Option.some.injEq] at h; subst h
      simp only [S.ok] at hx; subst hx
      simp [Builtin.len_, run_underlying hd, NN.val]
    · simp only [Option.some.injEq] at h; subst h
      simp only [S.ok] at hx; subst hx
      simp [Builtin.len_, run_underlying hd, NN.val]
    · cases h
  · rename_i hdd; simp only [hdd] at hd
    simp only [Option.some.injEq] at h; subst h
    simp only [S.ok] at hx; subst hx
    simp [Builtin.len_, run_underlying hd, NN.val]
    rfl
  · cases h
theorem minmax (lit : Bool) (k : IntKind) (a b : Int) : (intS (std W) lit k .min a b).ok m ν (.int k (if b < a then b else a)) ∧ (intS (std W) lit k .max a b).ok m ν (.int k (if b > a then b else a)) := by
  cases lit <;> simp [intS, S.ok, std, stdAF_eq, stdA]
theorem mmS_ok {op : AO} {x y : S} {v u : Value} {K : S → Prop} (h : mmS (std W) op x y K) (hx : x.ok m ν v) (hy : y.ok m ν u) :
    ∃ s k a k' b, v = .int k a ∧ u = .int k' b ∧ K s ∧ ((op = .min → s.ok m ν (.int k (if b < a then b else a))) ∧ (op = .max → s.ok m ν (.int k (if b > a then b else a)))) := by
  unfold mmS at h
  split at h
  case h_5 => exact h.elim
  all_goals
    simp only [S.ok] at hx hy
    subst hx; subst hy
    exact ⟨_, _, _, _, _, rfl, rfl, h, (by rintro rfl; exact (minmax _ _ _ _).1), (by rintro rfl; exact (minmax _ _ _ _).2)⟩
theorem pure_sound (hT : TOk P tt) {o : Oper} {ev : Operand → S} {ρ : Operand → Value} {h : List Ob} {K : S → List Ob → Prop} (hp : isPure o.op = true) (hev : ∀ x, (ev x).ok m ν (ρ x)) (hk : opS (std W) tt o.op ev h K) :
    ∃ s v, K s h ∧ s.ok m ν v ∧ ∀ w, (execOp ρ o).run P w = .ok (.value v) w := by
  obtain ⟨dst, op, ty, pos, after, guard⟩ := o
  have lift : ∀ {e : Sem Value} {K' : S → Prop}, Gives P m ν e K' → ∃ s v, K' s ∧ s.ok m ν v ∧ ∀ w, (do pure (Next.value (← e)) : Sem Next).run P w = .ok (.value v) w := by
    rintro e K' ⟨s, v, h1, h2, h3⟩
    exact ⟨s, v, h1, h2, fun w => by simp [h3]⟩
  have lift2 : ∀ {e : Sem Value} {x : Option S}, someK x (fun v => K v h) → (∀ r, x = some r → ∃ u, r.ok m ν u ∧ ∀ w, e.run P w = .ok u w) → ∃ s v, K s h ∧ s.ok m ν v ∧ ∀ w, (do pure (Next.value (← e)) : Sem Next).run P w = .ok (.value v) w := by
    intro e x hx hf
    obtain ⟨s, hs, hK⟩ := someK_iff hx
    obtain ⟨u, h1, h2⟩ := hf s hs
    exact ⟨s, u, hK, h1, fun w => by simp [h2]⟩
  cases op <;> simp only [isPure, Bool.false_eq_true] at hp <;> simp only [opS] at hk
  case move x => exact ⟨_, _, hk, hev x, fun w => by simp [execOp]⟩
  case assign x => exact ⟨_, _, hk, hev x, fun w => by simp [execOp]⟩
  case pick c a b =>
    have hcv := hev c
    split at hk
    · rename_i he; rw [he] at hcv; simp only [S.ok] at hcv
      exact ⟨_, _, hk, hev a, fun w => by simp [execOp, hcv, asBool]⟩
    · rename_i he; rw [he] at hcv; simp only [S.ok] at hcv
      exact ⟨_, _, hk, hev b, fun w => by simp [execOp, hcv, asBool]⟩
    · rename_i x he; rw [he] at hcv; simp only [S.ok] at hcv
      split at hk
      · rename_i hx; subst hx
        exact ⟨_, _, hk, hev a, fun w => by simp [execOp, hcv, asBool]⟩
      · rename_i hx
        have hx : x = false := by simpa using hx
        subst hx
        exact ⟨_, _, hk, hev b, fun w => by simp [execOp, hcv, asBool]⟩
    · exact hk.elim
  case build t ps =>
    obtain ⟨s, hs, hK⟩ := someK_iff hk
    obtain ⟨u, h1, h2⟩ := buildV_sound hT hev hs
    exact ⟨s, u, hK, h1, fun w => by simp only [execOp]; simp [h2]⟩
  case nilCheck x =>
    have hx := hev x
    split at hk
    · rename_i he; rw [he] at hx; have hx' := hx; simp only [S.ok] at hx; obtain ⟨_, hx⟩ := hx
      exact ⟨_, _, hk, hx', fun w => by simp [execOp, hx]⟩
    · rename_i he; rw [he] at hx; have hx' := hx; simp only [S.ok] at hx; obtain ⟨_, _, hx⟩ := hx
      exact ⟨_, _, hk, hx', fun w => by simp [execOp, hx]⟩
    · rename_i he; rw [he] at hx; have hx' := hx; simp only [S.ok] at hx
      exact ⟨_, _, hk, hx', fun w => by simp [execOp, hx]⟩
    · rename_i he; rw [he] at hx; have hx' := hx; simp only [S.ok] at hx; obtain ⟨vs, hx, _⟩ := hx
      exact ⟨_, _, hk, hx', fun w => by simp [execOp, hx]⟩
    · rename_i he; rw [he] at hx; have hx' := hx; simp only [S.ok] at hx; obtain ⟨vs, hx, _⟩ := hx
      exact ⟨_, _, hk, hx', fun w => by simp [execOp, hx]⟩
    · rename_i he; rw [he] at hx; have hx' := hx; simp only [S.ok] at hx; obtain ⟨u, hx, _⟩ := hx
      exact ⟨_, _, hk, hx', fun w => by simp [execOp, hx]⟩
    · exact hk.elim
  case binOp op t x y yt =>
    split at hk
    · rename_i v u hcn hx hy
      have hxo := hev x
      have hyo := hev y
      rw [hx] at hxo; rw [hy] at hyo
      simp only [S.ok] at hxo hyo
      split at hk
      case h_2 => exact hk.elim
      rename_i ti ht
      have hd := (hT t ti ht).desc
      have hcn' : isConstNil x = true ∨ isConstNil y = true := by simpa using hcn
      have hg : ∀ op w, (eqGuard op t x y .nilIface .nilIface).run P w = .ok () w := by
        intro op w
        rcases hcn' with h | h
        · obtain ⟨c, rfl⟩ : ∃ c, x = .const c := by cases x <;> simp [isConstNil] at h ⊢
          cases op <;> simp [eqGuard]
        · obtain ⟨c, rfl⟩ : ∃ c, y = .const c := by cases y <;> simp [isConstNil] at h ⊢
          cases op <;> simp [eqGuard]
      split at hk
      · rename_i hdd hn
        simp only [hdd] at hd
        obtain ⟨ms, hd⟩ := hd
        simp only [Bool.and_eq_true] at hn
        obtain rfl := isNilIf_of hn.1
        obtain rfl := isNilIf_of hn.2
        have he := eqAll (P := P) (t := t) (v := .nilIface) (u := .nilIface) (b := true) fun d w => by simp [Op.equalIn, run_underlying hd]
        exact ⟨_, _, hk, (by simp only [S.ok]; rfl), fun w => by simp [execOp, hxo, hyo, hg, binOp, he]⟩
      · rename_i hdd hn
        simp only [hdd] at hd
        obtain ⟨ms, hd⟩ := hd
        simp only [Bool.and_eq_true] at hn
        obtain rfl := isNilIf_of hn.1
        obtain rfl := isNilIf_of hn.2
        have he := eqAll (P := P) (t := t) (v := .nilIface) (u := .nilIface) (b := true) fun d w => by simp [Op.equalIn, run_underlying hd]
        exact ⟨_, _, hk, (by simp only [S.ok]; rfl), fun w => by simp [execOp, hxo, hyo, hg, binOp, he]⟩
      · rename_i op hdd hn
        exact lift (binS_sound hT (by simp only [S.ok]; exact hxo) (by simp only [S.ok]; exact hyo) hk x y)
      · exact hk.elim
    · exact lift (binS_sound hT (hev x) (hev y) hk x y)
  case unOp op t x => exact lift2 hk fun r hr => unS_sound hr (hev x)
  case convert a b x => exact lift2 hk fun r hr => convS_sound hT hr (hev x)
  case makeInterface t x =>
    split at hk
    case h_2 => exact hk.elim
    rename_i ti ht
    split at hk
    · exact hk.elim
    rename_i hni
    split at hk
    case h_2 => exact hk.elim
    obtain ⟨d, hd⟩ := (hT t ti ht).und
    refine ⟨_, _, hk, (by simp only [S.ok]; exact ⟨_, rfl, hev x⟩), fun w => ?_⟩
    have hdi : ∀ ms, d ≠ .interface ms := by
      rintro ms rfl
      have hdd := (hT t ti ht).desc
      cases hq : ti.d <;> simp only [hq, hd] at hdd
      case iface => exact hni hq
      case struct => obtain ⟨_, h, _⟩ := hdd; cases h
      case func => obtain ⟨_, _, _, h⟩ := hdd; cases h
      all_goals cases hdd
    simp only [execOp, Instr.makeInterface, Sem.run_bind, run_underlying hd, Result.andThen_ok]
    cases d <;> first | (exact absurd rfl (hdi _)) | simp
  case makeFunc f first captured =>
    have hmap : ∀ l : List Operand, oks m ν (l.map ev) (l.map ρ) := by
      intro l
      induction l with
      | nil => exact oks_nil
      | cons c l ih => exact oks_cons (hev c) ih
    split at hk
    · rename_i f hfi
      have h1 : first = #[] := by apply Array.toList_inj.1; simpa using hfi
      subst h1
      refine ⟨_, .func (.func f) #[] (captured.map ρ), hk, ?_, fun w => by simp [execOp, Instr.makeFunc]⟩
      simp only [S.ok]
      exact ⟨captured.toList.map ρ, by congr 1; apply Array.toList_inj.1; simp, hmap _⟩
    · rename_i f x r hfi
      split at hk
      case h_2 => exact hk.elim
      rename_i hca
      have h1 : captured = #[] := by apply Array.toList_inj.1; simpa using hca
      subst h1
      refine ⟨_, .func (.func f) (first.map ρ) #[], hk, ?_, fun w => by simp [execOp, Instr.makeFunc]⟩
      simp only [S.ok]
      refine ⟨first.toList.map ρ, by congr 1; apply Array.toList_inj.1; simp, ?_⟩
      rw [← hfi]
      exact hmap _
    · exact hk.elim
  case slice t x lo hi mx => exact lift (sliceS_sound hT hk (hev x) (optOk_map hev lo) (optOk_map hev hi) (optOk_map hev mx))
  case fieldAddr t x f => exact lift2 hk fun r hr => fieldA_sound hT hr (hev x)
  case field t x f => exact lift2 hk fun r hr => fieldV_sound hT hr (hev x)
  case indexAddr t x i => exact lift (idxAddr_sound hT hk (hev x) (hev i))
  case index t x i => exact lift (idxVal_sound hT hk (hev x) (hev i))
  case extract x i =>
    have hx := hev x
    split at hk
    case h_2 => exact hk.elim
    rename_i vs he
    rw [he] at hx
    simp only [S.ok] at hx
    obtain ⟨us, hxv, ho⟩ := hx
    split at hk
    case h_2 => exact hk.elim
    rename_i s hs
    obtain ⟨u, h1, h2⟩ := oks_get i ho hs
    exact ⟨s, u, hk, h2, fun w => by simp [execOp, Instr.extract, hxv, h1]⟩
  case call c =>
    obtain ⟨callee, args, ats⟩ := c
    simp only at hk
    split at hk
    · rename_i x t ha hat
      have h1 : args = #[x] := by apply Array.toList_inj.1; simpa using ha
      have h2 : ats = #[t] := by apply Array.toList_inj.1; simpa using hat
      subst h1; subst h2
      split at hk
      case h_2 => exact hk.elim
      rename_i ti ht
      split at hk
      case h_2 => exact hk.elim
      rename_i n hn
      have hl := fun w => lenS_sound hT (ty := ty) ht hn (hev x) w
      refine ⟨_, _, hk, int_ok n, fun w => ?_⟩
      have := hl w
      simp [execOp, resolve, invoke, builtin, this]
    · rename_i x y ha
      have h1 : args = #[x, y] := by apply Array.toList_inj.1; simpa using ha
      subst h1
      obtain ⟨s, k, a, k', b, hx, hy, hK, hs⟩ := mmS_ok hk (hev x) (hev y)
      refine ⟨s, .int k (if b < a then b else a), hK, hs.1 rfl, fun w => ?_⟩
      simp [execOp, resolve, invoke, builtin, hx, hy, Builtin.min_, Builtin.min2]
    · rename_i x y ha
      have h1 : args = #[x, y] := by apply Array.toList_inj.1; simpa using ha
      subst h1
      obtain ⟨s, k, a, k', b, hx, hy, hK, hs⟩ := mmS_ok hk (hev x) (hev y)
      refine ⟨s, .int k (if b > a then b else a), hK, hs.2 rfl, fun w => ?_⟩
      simp [execOp, resolve, invoke, builtin, hx, hy, Builtin.max_, Builtin.max2]
    · exact hk.elim
end
end Go.SX
