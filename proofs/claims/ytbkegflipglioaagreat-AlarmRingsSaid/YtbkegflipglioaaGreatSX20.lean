/- SX: what is out of reach is left out; cells of one kind. -/
import Derived.Test.YtbkegflipglioaaGreatSX19
set_option maxRecDepth 20000
namespace Go.SX
open Go.RowKit
def iotaK : Nat → List Nat → (List Nat → Prop) → Prop
  | 0, l, K => K l
  | n + 1, l, K => forceN n fun m => iotaK n (m :: l) K
theorem iotaK_ok : ∀ (n : Nat) (l : List Nat) {K : List Nat → Prop}, iotaK n l K → ∃ l', K l'
  | 0, l, K, h => ⟨_, h⟩
  | n + 1, l, K, h => by unfold iotaK at h; rw [forceN_eq] at h; exact iotaK_ok n _ h
/-- What is handed on behind a call: the first k objects, and what is reached from these and the answer. -/
def gcK (k : Nat) (K : S → List Ob → Prop) : S → List Ob → Prop := fun s h =>
  iotaK k [] fun l => nmS s l fun l => nmH h 400 0 l fun ids => match nodupN ids, idTo k 0 ids, Nat.ble k ids.length with
    | true, true, true => smS ids s fun s' => smH ids h ids fun hs => K s' hs
    | _, _, _ => False
section
variable {W : Addr → Nat → Nat → Option (List S)} {P : Program}
theorem gc_post {w0 w : World} {S0 : List Nat} {ν : Nat → Env} {k : Nat} {K : S → List Ob → Prop} {v : Value} (hp : Post W w0 S0 ν k (gcK k K) v w) : Post W w0 S0 ν k K v w := by
  obtain ⟨s, h, ν', hk, hn, hν, H, hv⟩ := hp
  unfold gcK at hk
  obtain ⟨l, hk⟩ := iotaK_ok _ _ hk
  obtain ⟨l, hk⟩ := nmS_ok _ hk
  obtain ⟨ids, hk⟩ := nmH_ok hk
  split at hk
  case h_2 => exact hk.elim
  rename_i hnd hid hle
  obtain ⟨s', hk, hs⟩ := smS_ok _ hk
  obtain ⟨hh, hk, hl, ho⟩ := smH_ok _ hk
  have hle := Nat.le_of_ble_eq_true hle
  have hinj := nodup_inj ids
  have old : ∀ r, (getO h r).own = true → h[r]? = some (getO h r) := by
    intro r hr
    rw [getO_get] at hr ⊢
    cases hg : h[r]? with
    | none => rw [hg] at hr; cases hr
    | some o => rfl
  have hj : ∀ {j : Nat} {o : Ob}, hh[j]? = some o → j < ids.length := fun hj => by
    have := (List.getElem?_eq_some_iff.1 hj).1
    omega
  refine ⟨s', hh, fun j => ν' (nthN ids j), hk, by omega, fun i hi => by show ν' (nthN ids i) = ν i; rw [idTo_ok _ _ _ hid i hi, Nat.zero_add]; exact hν i hi, ⟨H.upd, fun j o hj1 => ?_, fun j o hj1 hown => ?_, fun i j o o' hij hi hj1 h1 h2 => ?_, fun j cs hj1 => ?_, H.far⟩, by rw [hl]; exact hs _ _ _ hv⟩
  · rw [hl]
    refine (ho j o hj1).holds h.length ν' _ w ?_
    rw [getO_get]
    cases hg : h[nthN ids j]? with
    | none => trivial
    | some o => exact H.ob _ _ hg
  · exact H.own _ _ (old _ ((ho j o hj1).own hown)) ((ho j o hj1).own hown)
  · exact H.apart _ _ _ _ (fun he => hij (hinj _ _ hnd (hj hi) (hj hj1) he)) (old _ ((ho i o hi).own h1)) (old _ ((ho j o' hj1).own h2)) ((ho i o hi).own h1) ((ho j o' hj1).own h2)
  · obtain ⟨cs', hc⟩ := (ho j _ hj1).win ⟨cs, rfl⟩
    refine H.win (nthN ids j) cs' ?_
    rw [getO_get] at hc
    cases hg : h[nthN ids j]? with
    | none => rw [hg] at hc; cases hc
    | some o => rw [hg] at hc; simpa using hc
theorem gc_call {f : FuncId} {args : List S} {h : List Ob} {K : S → List Ob → Prop} (hc : CallSem W P f args h (gcK h.length K)) : CallSem W P f args h K := by
  intro w w0 S0 ν vs H hv
  rcases hc w w0 S0 ν vs H hv with ⟨he, hc⟩ | ⟨v, w', he, hp⟩
  · exact Or.inl ⟨he, hc.mono fun e w' ⟨v, h1, h2⟩ => ⟨v, h1, gc_post h2⟩⟩
  · exact Or.inr ⟨v, w', he, gc_post hp⟩
end
/-! Cells of one kind. -/
def nI : S → Int
  | .il _ n => n
  | .iv _ n => n
  | _ => 0
def nB : S → Bool
  | .bl x => x
  | .bv x => x
  | _ => false
def isI (k : IntKind) : S → Bool
  | .il k' _ => (if k = k' then true else false)
  | .iv k' _ => (if k = k' then true else false)
  | _ => false
def isB : S → Bool
  | .bl _ => true
  | .bv _ => true
  | _ => false
inductive Kd where
  | i (k : IntKind)
  | b
def kdS : Kd → S → Bool
  | .i k, s => isI k s
  | .b, s => isB s
def kdN : Kd → S → S
  | .i k, s => .iv k (nI s)
  | .b, s => .bv (nB s)
def kdsL : List Kd → List S → Bool
  | [], [] => true
  | k :: ks, s :: ss => (match kdS k s with
    | true => kdsL ks ss
    | false => false)
  | _, _ => false
def kdsN : List Kd → List S → List S
  | k :: ks, s :: ss => kdN k s :: kdsN ks ss
  | _, _ => []
theorem kdS_ok {k : Kd} {s : S} (h : kdS k s = true) {m : Nat} {ν : Nat → Env} {v : Value} (hv : s.ok m ν v) : (kdN k s).ok m ν v := by
  cases k with
  | i k =>
    simp only [kdS] at h
    cases s <;> simp only [isI, Bool.false_eq_true] at h
    case il k' n => have := eqKB h; subst this; simpa only [kdN, nI, S.ok] using hv
    case iv k' n => have := eqKB h; subst this; simpa only [kdN, nI, S.ok] using hv
  | b =>
    simp only [kdS] at h
    cases s <;> simp only [isB, Bool.false_eq_true] at h
    case bl x => simpa only [kdN, nB, S.ok] using hv
    case bv x => simpa only [kdN, nB, S.ok] using hv
theorem kdsL_ok : ∀ {ks : List Kd} {ss : List S}, kdsL ks ss = true → ∀ m ν vs, S.oks m ν ss vs → S.oks m ν (kdsN ks ss) vs
  | [], [], _, m, ν, vs, hv => hv
  | k :: ks, s :: ss, h, m, ν, vs, hv => by
    unfold kdsL at h
    split at h
    case h_2 => cases h
    rename_i hk
    simp only [kdsN, S.oks] at hv ⊢
    obtain ⟨v, r, g1, g2, g3⟩ := hv
    exact ⟨v, r, g1, kdS_ok hk g2, kdsL_ok h _ _ _ g3⟩
  | [], _ :: _, h, _, _, _, _ => by cases h
  | _ :: _, [], h, _, _, _, _ => by cases h
theorem kdsL_len : ∀ {ks : List Kd} {ss : List S}, kdsL ks ss = true → ss.length = ks.length
  | [], [], _ => rfl
  | k :: ks, s :: ss, h => by
    unfold kdsL at h
    split at h
    case h_2 => cases h
    simp [kdsL_len h]
  | [], _ :: _, h => by cases h
  | _ :: _, [], h => by cases h
/-- An object's cells told anew. -/
theorem WkO.cells {T : TypeId} {cs cs' : List S} (h : ∀ m ν vs, S.oks m ν cs vs → S.oks m ν cs' vs) : WkO (.cells T cs) (.cells T cs') :=
  ⟨fun _ => rfl, (fun cs h => by cases h), fun m ν e w hh => by obtain ⟨h0, vs, g1, g2⟩ := hh; exact ⟨h0, vs, h _ _ _ g1, g2⟩⟩
theorem WkO.same {o : Ob} (h : ∀ cs, o ≠ .win cs) : WkO o o := ⟨fun h => h, h, fun _ _ _ _ hh => hh⟩
theorem WkO.row {T : TypeId} {sz : Nat} {n : NN} {cs cs' : List S} (h : ∀ m ν vs, S.oks m ν cs vs → S.oks m ν cs' vs) : WkO (.row T sz n cs) (.row T sz n cs') :=
  ⟨fun _ => rfl, (fun cs h => by cases h), fun m ν e w hh => by obtain ⟨h0, vs, cur, g1, g2⟩ := hh; exact ⟨h0, vs, cur, h _ _ _ g1, g2⟩⟩
/-- Objects, one by one. -/
def WkL : List Ob → List Ob → Prop
  | [], [] => True
  | o :: r, o' :: r' => WkO o o' ∧ WkL r r'
  | _, _ => False
theorem WkL_ok : ∀ {l l' : List Ob}, WkL l l' → l'.length = l.length ∧ ∀ (j : Nat) o', l'[j]? = some o' → ∃ o, l[j]? = some o ∧ WkO o o'
  | [], [], _ => ⟨rfl, fun j o' h => by simp at h⟩
  | o :: r, o' :: r', h => by
    obtain ⟨h1, h2⟩ := WkL_ok h.2
    refine ⟨by simp [h1], fun j x hx => ?_⟩
    cases j with
    | zero => simp only [List.getElem?_cons_zero, Option.some.injEq] at hx; subst hx; exact ⟨o, rfl, h.1⟩
    | succ j => simpa using h2 j x (by simpa using hx)
  | [], _ :: _, h => h.elim
  | _ :: _, [], h => h.elim
theorem CallSem.objs {W : Addr → Nat → Nat → Option (List S)} {P : Program} {f : FuncId} {args args' : List S} {hs hs' : List Ob} {K : S → List Ob → Prop} (hc : CallSem W P f args' hs' K) (ha : ∀ m ν vs, S.oks m ν args vs → S.oks m ν args' vs) (h : WkL hs hs') : CallSem W P f args hs K :=
  hc.conv ha (WkL_ok h).1 (WkL_ok h).2
/-! What is written out in an answer is told as what is not. -/
mutual
def ivS : S → S
  | .il k n => .iv k n
  | .bl x => .bv x
  | .ifc t x => .ifc t (ivS x)
  | .agg cs => .agg (ivL cs)
  | .tup cs => .tup (ivL cs)
  | .iv k n => .iv k n
  | .bv x => .bv x
  | .tl x => .tl x
  | .tv x => .tv x
  | .ptr i o => .ptr i o
  | .rp a o => .rp a o
  | .nil => .nil
  | .sli i o n c z => .sli i o n c z
  | .raw v => .raw v
  | .fn f cs => .fn f cs
  | .bm f cs => .bm f cs
  | .mp i => .mp i
  | .un => .un
  | .junk => .junk
def ivL : List S → List S
  | [] => []
  | x :: r => ivS x :: ivL r
end
mutual
theorem ivS_ok : ∀ (s : S) {m : Nat} {ν : Nat → Env} {v : Value}, s.ok m ν v → (ivS s).ok m ν v
  | .ifc t x, m, ν, v, h => by
    simp only [ivS, S.ok] at h ⊢
    obtain ⟨u, g1, g2⟩ := h
    exact ⟨u, g1, ivS_ok x g2⟩
  | .agg cs, m, ν, v, h => by
    simp only [ivS, S.ok] at h ⊢
    obtain ⟨vs, g1, g2⟩ := h
    exact ⟨vs, g1, ivL_ok cs g2⟩
  | .tup cs, m, ν, v, h => by
    simp only [ivS, S.ok] at h ⊢
    obtain ⟨vs, g1, g2⟩ := h
    exact ⟨vs, g1, ivL_ok cs g2⟩
  | .il _ _, m, ν, v, h => by simpa only [ivS, S.ok] using h
  | .bl _, m, ν, v, h => by simpa only [ivS, S.ok] using h
  | .iv _ _, m, ν, v, h => by simpa only [ivS] using h
  | .bv _, m, ν, v, h => by simpa only [ivS] using h
  | .tl _, m, ν, v, h => by simpa only [ivS] using h
  | .tv _, m, ν, v, h => by simpa only [ivS] using h
  | .ptr _ _, m, ν, v, h => by simpa only [ivS] using h
  | .rp _ _, m, ν, v, h => by simpa only [ivS] using h
  | .nil, m, ν, v, h => by simpa only [ivS] using h
  | .sli _ _ _ _ _, m, ν, v, h => by simpa only [ivS] using h
  | .raw _, m, ν, v, h => by simpa only [ivS] using h
  | .fn _ _, m, ν, v, h => by simpa only [ivS] using h
  | .bm _ _, m, ν, v, h => by simpa only [ivS] using h
  | .mp _, m, ν, v, h => by simpa only [ivS] using h
  | .un, m, ν, v, h => by simpa only [ivS] using h
  | .junk, m, ν, v, h => by simpa only [ivS] using h
theorem ivL_ok : ∀ (l : List S) {m : Nat} {ν : Nat → Env} {vs : List Value}, S.oks m ν l vs → S.oks m ν (ivL l) vs
  | [], m, ν, vs, h => by simpa only [ivL] using h
  | x :: r, m, ν, vs, h => by
    simp only [ivL, S.oks] at h ⊢
    obtain ⟨v, q, g1, g2, g3⟩ := h
    exact ⟨v, q, g1, ivS_ok x g2, ivL_ok r g3⟩
end
def hasLit : List S → Bool
  | [] => false
  | x :: r => (match x with
    | .il _ _ => true
    | .bl _ => true
    | _ => hasLit r)
def ivC (cs : List S) (K : List S → Prop) : Prop := match hasLit cs with
  | true => K (ivL cs)
  | false => K cs
def ivO (o : Ob) (K : Ob → Prop) : Prop := match o with
  | .cells T cs => ivC cs fun cs => K (.cells T cs)
  | .row T sz (.l n) cs => ivC cs fun cs => K (.row T sz (.l n) cs)
  | o => K o
def ivH : List Ob → (List Ob → Prop) → Prop
  | [], K => K []
  | o :: r, K => ivO o fun o => ivH r fun r => K (o :: r)
def ivK (b : Bool) (K : S → List Ob → Prop) : S → List Ob → Prop := fun s h => ivH h fun h => match b with
  | true => K (ivS s) h
  | false => K s h
structure IvO (o o' : Ob) : Prop where
  own : o'.own = true → o.own = true
  win : ∀ cs, o' = .win cs → o = .win cs
  holds : ∀ m ν e w, o.holds m ν e w → o'.holds m ν e w
theorem ivC_ok {cs : List S} {K : List S → Prop} (h : ivC cs K) : ∃ cs', K cs' ∧ ∀ m ν vs, S.oks m ν cs vs → S.oks m ν cs' vs := by
  unfold ivC at h
  split at h
  · exact ⟨_, h, fun m ν vs hv => ivL_ok cs hv⟩
  · exact ⟨_, h, fun m ν vs hv => hv⟩
theorem ivO_ok {o : Ob} {K : Ob → Prop} (h : ivO o K) : ∃ o', K o' ∧ IvO o o' := by
  unfold ivO at h
  split at h
  · obtain ⟨cs, h1, h2⟩ := ivC_ok h
    exact ⟨_, h1, fun _ => rfl, (fun cs h => by cases h), fun m ν e w hh => by obtain ⟨h0, vs, g1, g2⟩ := hh; exact ⟨h0, vs, h2 _ _ _ g1, g2⟩⟩
  · obtain ⟨cs, h1, h2⟩ := ivC_ok h
    exact ⟨_, h1, fun _ => rfl, (fun cs h => by cases h), fun m ν e w hh => by obtain ⟨h0, vs, cur, g1, g2⟩ := hh; exact ⟨h0, vs, cur, h2 _ _ _ g1, g2⟩⟩
  · exact ⟨_, h, fun h => h, fun cs h => h, fun _ _ _ _ hh => hh⟩
theorem ivH_ok : ∀ (l : List Ob) {K : List Ob → Prop}, ivH l K → ∃ l', K l' ∧ l'.length = l.length ∧ ∀ (j : Nat) o', l'[j]? = some o' → ∃ o, l[j]? = some o ∧ IvO o o'
  | [], K, h => ⟨_, h, rfl, fun j o' hj => by simp at hj⟩
  | o :: r, K, h => by
    unfold ivH at h
    obtain ⟨o', h1, h2⟩ := ivO_ok h
    obtain ⟨r', h3, h4, h5⟩ := ivH_ok r h1
    refine ⟨_, h3, by simp [h4], fun j x hx => ?_⟩
    cases j with
    | zero => simp only [List.getElem?_cons_zero, Option.some.injEq] at hx; subst hx; exact ⟨o, rfl, h2⟩
    | succ j => simpa using h5 j x (by simpa using hx)
section
variable {W : Addr → Nat → Nat → Option (List S)} {P : Program}
theorem iv_post {w0 w : World} {S0 : List Nat} {ν : Nat → Env} {k : Nat} {b : Bool} {K : S → List Ob → Prop} {v : Value} (hp : Post W w0 S0 ν k (ivK b K) v w) : Post W w0 S0 ν k K v w := by
  obtain ⟨s, h, ν', hk, hn, hν, H, hv⟩ := hp
  unfold ivK at hk
  obtain ⟨l, hk, hl, ho⟩ := ivH_ok _ hk
  have H' : HOk W w0 S0 ν' l w := by
    refine ⟨H.upd, fun i o hi => ?_, fun i o hi hown => ?_, fun i j o o' hij hi hj h1 h2 => ?_, fun i cs hi => ?_, H.far⟩
    · obtain ⟨o0, h1, h2⟩ := ho i o hi
      rw [hl]; exact h2.holds _ _ _ _ (H.ob i o0 h1)
    · obtain ⟨o0, h1, h2⟩ := ho i o hi
      exact H.own i o0 h1 (h2.own hown)
    · obtain ⟨o0, g1, g2⟩ := ho i o hi
      obtain ⟨o1, g3, g4⟩ := ho j o' hj
      exact H.apart i j o0 o1 hij g1 g3 (g2.own h1) (g4.own h2)
    · obtain ⟨o0, h1, h2⟩ := ho i _ hi
      have := h2.win cs rfl
      subst this
      exact H.win i cs h1
  cases b with
  | true => exact ⟨_, l, ν', hk, by omega, hν, H', by rw [hl]; exact ivS_ok s hv⟩
  | false => exact ⟨_, l, ν', hk, by omega, hν, H', by rw [hl]; exact hv⟩
theorem iv_call {f : FuncId} {args : List S} {h : List Ob} {b : Bool} {K : S → List Ob → Prop} (hc : CallSem W P f args h (gcK h.length (ivK b K))) : CallSem W P f args h K := by
  intro w w0 S0 ν vs H hv
  rcases gc_call hc w w0 S0 ν vs H hv with ⟨he, hc⟩ | ⟨v, w', he, hp⟩
  · exact Or.inl ⟨he, hc.mono fun e w' ⟨v, h1, h2⟩ => ⟨v, h1, iv_post h2⟩⟩
  · exact Or.inr ⟨v, w', he, iv_post hp⟩
end
/-! Short words. -/
def adB (x y : Int) : Int := stdA .add .u8 x y
def adw (x y : Int) : Int := stdA .add .u32 x y
def adq (x y : Int) : Int := stdA .add .u64 x y
def adi (x y : Int) : Int := stdA .add .i64 x y
def sbB (x y : Int) : Int := stdA .sub .u8 x y
def sbw (x y : Int) : Int := stdA .sub .u32 x y
def sbq (x y : Int) : Int := stdA .sub .u64 x y
def sbi (x y : Int) : Int := stdA .sub .i64 x y
def mlB (x y : Int) : Int := stdA .mul .u8 x y
def mlw (x y : Int) : Int := stdA .mul .u32 x y
def mlq (x y : Int) : Int := stdA .mul .u64 x y
def mli (x y : Int) : Int := stdA .mul .i64 x y
def quB (x y : Int) : Int := stdA .quo .u8 x y
def quw (x y : Int) : Int := stdA .quo .u32 x y
def quq (x y : Int) : Int := stdA .quo .u64 x y
def qui (x y : Int) : Int := stdA .quo .i64 x y
def rmB (x y : Int) : Int := stdA .rem .u8 x y
def rmw (x y : Int) : Int := stdA .rem .u32 x y
def rmq (x y : Int) : Int := stdA .rem .u64 x y
def rmi (x y : Int) : Int := stdA .rem .i64 x y
def anB (x y : Int) : Int := stdA .and .u8 x y
def anw (x y : Int) : Int := stdA .and .u32 x y
def anq (x y : Int) : Int := stdA .and .u64 x y
def ani (x y : Int) : Int := stdA .and .i64 x y
def rrB (x y : Int) : Int := stdA .or .u8 x y
def rrw (x y : Int) : Int := stdA .or .u32 x y
def rrq (x y : Int) : Int := stdA .or .u64 x y
def rri (x y : Int) : Int := stdA .or .i64 x y
def xrB (x y : Int) : Int := stdA .xor .u8 x y
def xrw (x y : Int) : Int := stdA .xor .u32 x y
def xrq (x y : Int) : Int := stdA .xor .u64 x y
def xri (x y : Int) : Int := stdA .xor .i64 x y
def nnB (x y : Int) : Int := stdA .andNot .u8 x y
def nnw (x y : Int) : Int := stdA .andNot .u32 x y
def nnq (x y : Int) : Int := stdA .andNot .u64 x y
def nni (x y : Int) : Int := stdA .andNot .i64 x y
def slB (x y : Int) : Int := stdA .shl .u8 x y
def slw (x y : Int) : Int := stdA .shl .u32 x y
def slq (x y : Int) : Int := stdA .shl .u64 x y
def sli (x y : Int) : Int := stdA .shl .i64 x y
def srB (x y : Int) : Int := stdA .shr .u8 x y
def srw (x y : Int) : Int := stdA .shr .u32 x y
def srq (x y : Int) : Int := stdA .shr .u64 x y
def sri (x y : Int) : Int := stdA .shr .i64 x y
def cvB (x y : Int) : Int := stdA .conv .u8 x y
def cvw (x y : Int) : Int := stdA .conv .u32 x y
def cvq (x y : Int) : Int := stdA .conv .u64 x y
def cvi (x y : Int) : Int := stdA .conv .i64 x y
def miB (x y : Int) : Int := stdA .min .u8 x y
def miw (x y : Int) : Int := stdA .min .u32 x y
def miq (x y : Int) : Int := stdA .min .u64 x y
def mii (x y : Int) : Int := stdA .min .i64 x y
def maB (x y : Int) : Int := stdA .max .u8 x y
def maw (x y : Int) : Int := stdA .max .u32 x y
def maq (x y : Int) : Int := stdA .max .u64 x y
def mai (x y : Int) : Int := stdA .max .i64 x y
def iE (x y : Int) : Bool := stdB .eq x y
def iN (x y : Int) : Bool := stdB .ne x y
def iL (x y : Int) : Bool := stdB .lt x y
def iM (x y : Int) : Bool := stdB .le x y
end Go.SX
