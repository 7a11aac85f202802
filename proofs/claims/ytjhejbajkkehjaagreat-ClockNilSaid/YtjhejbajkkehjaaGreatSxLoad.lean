/- SX: a call that only reads one object; clint.Load of the time. -/
import Derived.Test.YtjhejbajkkehjaaGreatSxStop2
set_option maxRecDepth 20000
namespace Go.SX.Y
open Go.Proofs Go.RowKit
theorem win_frame {P : Program} {f : FuncId} {x r : S} {cs : List S} {K1 : S → List Ob → Prop} (hsem : CallSem noW P f [.ptr 0 (.l 0), x] [.win cs] K1) (hK1 : ∀ v h, K1 v h → v = r)
    (hr : ∀ m ν m' ν' u, r.ok m ν u → r.ok m' ν' u) (hx : ∀ m ν m' ν' u, x.ok m ν u → x.ok m' ν' u)
    {h : List Ob} {id : Nat} {T : TypeId} {cs' : List S} {y : S} {q : S} {K : S → List Ob → Prop} (hob : getO h id = .cells T cs') (hc : ∀ m ν m' ν' us, oks m ν cs' us → oks m' ν' cs us) (hy : ∀ m ν u, y.ok m ν u → x.ok m ν u) (hq : ∀ m ν u, r.ok m ν u → q.ok m ν u) (hk : K q h) : CallSem noW P f [.ptr id (.l 0), y] h K := by
  intro w w0 S0 ν vs H hv
  have ho' : h[id]? = some (.cells T cs') := by
    rcases getO_spec h id with hz | hz
    · rw [hz, hob]
    · rw [hz] at hob; cases hob
  obtain ⟨hb0, us, hus, hcell⟩ := H.ob id _ ho'
  simp only [S.oks] at hv
  obtain ⟨v1, _, rfl, h1, v2, _, rfl, h2, rfl⟩ := hv
  simp only [S.ok] at h1
  obtain ⟨hid, rfl⟩ := h1
  rw [hb0]
  have hlt := lt_of_blk hcell
  have H1 : HOk noW w [] (fun _ => ⟨(ν id).blk, 0, 0⟩) [.win cs] w := by
    refine ⟨Upd.refl _ _, fun i o hi => ?_, fun i o hi ho => ?_, fun i j o o' hij hi hj ho ho' => ?_, fun i cs0 hi => ?_, by intro a o n cs h; cases h⟩
    · cases i with
      | zero =>
        simp only [List.getElem?_cons_zero, Option.some.injEq] at hi
        subst hi
        refine ⟨us, hc _ _ _ _ _ hus, fun j u hj => ?_⟩
        simp only [World.cell?, hcell, Nat.zero_add]
        simpa using hj
      | succ i => simp at hi
    · cases i with
      | zero => simp only [List.getElem?_cons_zero, Option.some.injEq] at hi; subst hi; cases ho
      | succ i => simp at hi
    · cases i with
      | zero => simp only [List.getElem?_cons_zero, Option.some.injEq] at hi; subst hi; cases ho
      | succ i => simp at hi
    · exact ⟨hlt, by simp⟩
  have hv1 : oks 1 (fun _ => ⟨(ν id).blk, 0, 0⟩) [.ptr 0 (.l 0), x] [.pointer (some ⟨(ν id).blk, 0 + (NN.l 0).val, none⟩), v2] :=
    oks_cons (by simp only [S.ok]; simp [Nat.zero_lt_one]) (oks_cons (hx _ _ _ _ _ (hy _ _ _ h2)) oks_nil)
  have fin : ∀ v w', Post noW w [] (fun _ => ⟨(ν id).blk, 0, 0⟩) 1 K1 v w' → Post noW w0 S0 ν h.length K v w' := by
    rintro v w' ⟨s, h', ν', hs, _, _, hok, hv⟩
    have := hK1 _ _ hs
    subst this
    exact ⟨q, h, ν, hk, Nat.le_refl _, fun _ _ => rfl, H.step (S1 := []) hok.upd (by simp), hq _ _ _ (hr _ _ _ _ _ hv)⟩
  rcases hsem w w [] _ _ H1 hv1 with ⟨he, hcl⟩ | ⟨v, w', he, hp⟩
  · exact Or.inl ⟨he, hcl.mono fun e w' ⟨v, h1, h2⟩ => ⟨v, h1, fin v w' h2⟩⟩
  · exact Or.inr ⟨v, w', he, fin v w' hp⟩
/-- A new clint of one hart, but for its time. -/
def restC : List S := [.il .u64 18446744073709551615, .il .u32 0, .il .u64 18446744073709551615, .il .u32 0, .il .u64 18446744073709551615, .il .u32 0, .il .u64 18446744073709551615, .il .u32 0, .il .u64 18446744073709551615, .il .u32 0, .il .u64 18446744073709551615, .il .u32 0, .il .u64 18446744073709551615, .il .u32 0, .il .u64 18446744073709551615, .il .u32 0, .il .i64 1]
def K1 (x : Int) (v : S) (_ : List Ob) : Prop := v = .tup [.iv .u32 x, .il .i64 0]
/-- All orders of the region come to this. -/
def lTree (E L : Prop) : Prop := ((E ∧ (E ∧ ((E ∧ (E ∧ ((E ∧ (L ∧ (E ∧ L))) ∧ (E ∧ (E ∧ (E ∧ L)))))) ∧ (E ∧ (E ∧ (E ∧ (E ∧ (E ∧ L)))))))) ∧ (E ∧ (E ∧ (E ∧ (E ∧ (E ∧ (E ∧ (E ∧ L))))))))
theorem lTree_ok {E L : Prop} (e : E) (l : L) : lTree E L :=
  ⟨⟨e, e, ⟨e, e, ⟨e, l, e, l⟩, e, e, e, l⟩, e, e, e, e, e, l⟩, e, e, e, e, e, e, e, l⟩
def eE (t : Int) : Prop := some (S.iv .u64 t) = some (S.iv .u64 t)
def eL (x : Int) : Prop := S.tup [.iv .u32 x, .il .i64 0] = .tup [.iv .u32 x, .il .i64 0]
theorem loadLo_run (t : Int) : (SX.runN (std noW) tt ffa noStop 60).1 197 [.ptr 0 (.l 0), .il .u32 49144] [.win (.iv .u64 t :: restC)] (K1 (stdA .conv .u32 t 0)) =
    lTree (eE t) (eL (stdA .conv .u32 t 0)) := by kernel_rfl
theorem loadHi_run (t : Int) : (SX.runN (std noW) tt ffa noStop 60).1 197 [.ptr 0 (.l 0), .il .u32 49148] [.win (.iv .u64 t :: restC)] (K1 (stdA .conv .u32 (stdA .shr .u64 t 32) 0)) =
    lTree (eE t) (eL (stdA .conv .u32 (stdA .shr .u64 t 32) 0)) := by kernel_rfl
theorem load_sem {off x t : Int} (hr : (SX.runN (std noW) tt ffa noStop 60).1 197 [.ptr 0 (.l 0), .il .u32 off] [.win (.iv .u64 t :: restC)] (K1 x) = lTree (eE t) (eL x)) {h : List Ob} {id : Nat} {T : TypeId} {K : S → List Ob → Prop} (hob : getO h id = .cells T (.il .u64 t :: restC)) (hk : K (.tup [.il .u32 x, .il .i64 0]) h) :
    CallSem noW Tryz.prog 197 [.ptr id (.l 0), .il .u32 off] h K := by
  have hsem := (runN_sound tok (by kernel_rfl) ffaok noStop_ok 60).1 _ _ _ _ (Eq.mpr hr (lTree_ok rfl rfl))
  refine win_frame (r := .tup [.iv .u32 x, .il .i64 0]) hsem (fun v h hv => hv) (fun m ν m' ν' u hu => ?_) (fun m ν m' ν' u hu => by simpa only [S.ok] using hu) hob (fun m ν m' ν' us hu => ?_) (fun m ν u hu => hu) (fun m ν u hu => ?_) hk
  · simp only [S.ok, S.oks] at hu ⊢; exact hu
  · simp only [restC, S.oks, S.ok] at hu ⊢; exact hu
  · simp only [S.ok, S.oks] at hu ⊢; exact hu
def ldS (h : List Ob) (id : Nat) (off : Int) (K : S → List Ob → Prop) : Prop := match getO h id with
  | .cells _ (.il .u64 t :: rest) => (match sames rest restC with
    | true => (match stdBF .eq off 49144 with
      | true => forceI (stdAF .conv .u32 t 0) fun r => K (.tup [.il .u32 r, .il .i64 0]) h
      | false => (match stdBF .eq off 49148 with
        | true => forceI (stdAF .conv .u32 (stdA .shr .u64 t 32) 0) fun r => K (.tup [.il .u32 r, .il .i64 0]) h
        | false => False))
    | false => False)
  | _ => False
theorem ldS_ok {h : List Ob} {id : Nat} {off : Int} {K : S → List Ob → Prop} (hk : ldS h id off K) : CallSem noW Tryz.prog 197 [.ptr id (.l 0), .il .u32 off] h K := by
  unfold ldS at hk
  split at hk
  case h_2 => exact hk.elim
  rename_i T t rest hob
  split at hk
  case h_2 => exact hk.elim
  rename_i hs
  have hrest := sames_eq _ _ hs
  subst hrest
  split at hk
  · rename_i ho
    rw [stdBF_eq] at ho
    have : off = 49144 := by simpa [stdB] using ho
    subst this
    rw [forceI_eq, stdAF_eq] at hk
    exact load_sem (loadLo_run t) hob hk
  · split at hk
    case h_2 => exact hk.elim
    rename_i ho
    rw [stdBF_eq] at ho
    have : off = 49148 := by simpa [stdB] using ho
    subst this
    rw [forceI_eq, stdAF_eq] at hk
    exact load_sem (loadHi_run t) hob hk
/-- What is met by a contract: clint.Load too. -/
def stopL (f : FuncId) (args : List S) (h : List Ob) (K : S → List Ob → Prop) : Prop := match Nat.beq f 197 with
  | true => (match args with
    | [.ptr id (.l 0), .il .u32 off] => ldS h id off K
    | _ => False)
  | false => stopB f args h K
theorem stopL_ok : ∀ f args h K, stopL f args h K → CallSem noW Tryz.prog f args h K := by
  intro f args h K hk
  unfold stopL at hk
  split at hk
  · rename_i hf
    have := Nat.eq_of_beq_eq_true hf
    subst this
    split at hk
    · exact ldS_ok hk
    · exact hk.elim
  · exact stopB_ok _ _ _ _ hk
def ffL (n : Nat) : Option FI := cond (Nat.beq n 197) none (ffB n)
theorem ffLok : FOk Tryz.prog ffL := fun f fi hf => by
  unfold ffL at hf
  cases hc : Nat.beq f 197 with
  | true => rw [hc] at hf; cases hf
  | false => rw [hc] at hf; exact ffBok f fi hf
end Go.SX.Y
