/- SX: what is met by a contract: bus.Regions and math/bits.Add64. -/
import Derived.Test.YtbkegflipglioaaGreatSXT
import Derived.Test.YtbkegflipglioaaGreatSX16
import Derived.Test.YtbkegflipglioaaGreatRegM
set_option maxRecDepth 20000
namespace Go.SX.Y
open Go.Proofs Go.Proofs.YtbkegflipglioaaGreat Go.RowKit

def decR : S → Option (Int × Int)
  | .agg [.il .u32 a, .il .u32 b] => some (a, b)
  | _ => none
def decs : List S → Option (List (Int × Int))
  | [] => some []
  | x :: r => (match decR x with
    | some p => (match decs r with
      | some l => some (p :: l)
      | none => none)
    | none => none)
def insI (x : Int × Int) : List (Int × Int) → List (Int × Int)
  | [] => [x]
  | y :: r => (match stdBF .lt x.1 y.1 with
    | true => x :: y :: r
    | false => y :: insI x r)
def sortI : List (Int × Int) → List (Int × Int)
  | [] => []
  | x :: r => insI x (sortI r)
/-- Ascending, no two the same. -/
def ascB : List (Int × Int) → Bool
  | [] => true
  | x :: r => (match r with
    | [] => true
    | y :: _ => (match stdBF .lt x.1 y.1 with
      | true => ascB r
      | false => false))
def cellsI : List (Int × Int) → List S
  | [] => []
  | x :: r => .il .u32 x.1 :: .il .u32 x.2 :: cellsI r
def regS (h : List Ob) (id : Nat) (K : S → List Ob → Prop) : Prop := match getO h id with
  | .cells _ [.mp j] => (match getO h j with
    | .mapo ks _ => (match decs ks with
      | some [] => K (.raw (.slice none 0 0)) h
      | some (p :: l) => (match ascB (sortI (p :: l)) with
        | true => (match Nat.ble (p :: l).length 12 with
          | true => normL (cellsI (sortI (p :: l))) fun cs => forceN (p :: l).length fun n => appK h (.row 212 2 (.l n) cs) fun h' => lenK h fun i => K (.sli i (.l 0) (.l n) (.rest (.l 0)) false) h'
          | false => False)
        | false => False)
      | none => False)
    | _ => False)
  | _ => False
theorem regS_eq (h : List Ob) (id : Nat) (K : S → List Ob → Prop) (hk : regS h id K) : ∃ T j ks vs l, getO h id = .cells T [.mp j] ∧ getO h j = .mapo ks vs ∧ decs ks = some l ∧
    ((l = [] ∧ K (.raw (.slice none 0 0)) h) ∨ (l ≠ [] ∧ ascB (sortI l) = true ∧ l.length ≤ 12 ∧ K (.sli h.length (.l 0) (.l l.length) (.rest (.l 0)) false) (h ++ [.row 212 2 (.l l.length) (cellsI (sortI l))]))) := by
  unfold regS at hk
  split at hk
  case h_2 => exact hk.elim
  rename_i T j ho
  split at hk
  case h_2 => exact hk.elim
  rename_i ks vs hm
  split at hk
  · rename_i hd
    exact ⟨T, j, ks, vs, [], ho, hm, hd, Or.inl ⟨rfl, hk⟩⟩
  · rename_i p l hd
    split at hk
    case h_2 => exact hk.elim
    rename_i ha
    split at hk
    case h_2 => exact hk.elim
    rename_i hb
    rw [normL_eq, forceN_eq, appK_eq, lenK_eq] at hk
    exact ⟨T, j, ks, vs, p :: l, ho, hm, hd, Or.inr ⟨by simp, ha, Nat.le_of_ble_eq_true hb, hk⟩⟩
  · exact hk.elim
theorem decR_ok {x : S} {p : Int × Int} {v : Value} {m : Nat} {ν : Nat → Env} (h : decR x = some p) (hv : x.ok m ν v) : v = encR p := by
  unfold decR at h
  split at h
  · simp only [Option.some.injEq] at h
    subst h
    simp only [S.ok, S.oks] at hv
    obtain ⟨vs, rfl, a, r, rfl, rfl, b, r2, rfl, rfl, rfl⟩ := hv
    rfl
  · cases h
theorem decs_ok {m : Nat} {ν : Nat → Env} : ∀ {ks : List S} {l : List (Int × Int)} {a : List Value}, decs ks = some l → oks m ν ks a → a = l.map encR
  | [], l, a, h, ha => by
    simp only [decs, Option.some.injEq] at h
    simp only [S.oks] at ha
    subst h; subst ha; rfl
  | x :: ks, l, a, h, ha => by
    simp only [decs] at h
    split at h
    case h_2 => cases h
    rename_i p hp
    split at h
    case h_2 => cases h
    rename_i l' hl
    simp only [Option.some.injEq] at h
    subst h
    simp only [S.oks] at ha
    obtain ⟨v, r, rfl, h1, h2⟩ := ha
    rw [decR_ok hp h1, decs_ok hl h2]
    rfl
theorem insI_perm (x : Int × Int) : ∀ l, (insI x l).Perm (x :: l)
  | [] => List.Perm.refl _
  | y :: r => by
    simp only [insI]
    split
    · exact List.Perm.refl _
    · exact ((insI_perm x r).cons y).trans (List.Perm.swap x y r)
theorem sortI_perm : ∀ l, (sortI l).Perm l
  | [] => List.Perm.refl _
  | x :: r => (insI_perm x _).trans ((sortI_perm r).cons x)
theorem ascB_ok : ∀ {l : List (Int × Int)}, ascB l = true → l.Pairwise fun x y => x.1 < y.1
  | [], _ => List.Pairwise.nil
  | [x], _ => by simp
  | x :: y :: r, h => by
    simp only [ascB] at h
    split at h
    case h_2 => cases h
    rename_i hlt
    rw [stdBF_eq] at hlt
    have hlt : x.1 < y.1 := by simpa [stdB] using hlt
    have ih := ascB_ok (l := y :: r) h
    refine List.pairwise_cons.2 ⟨fun z hz => ?_, ih⟩
    rcases List.mem_cons.1 hz with rfl | hz
    · exact hlt
    · have := (List.pairwise_cons.1 ih).1 z hz
      omega
theorem cellsI_ok {m : Nat} {ν : Nat → Env} : ∀ l : List (Int × Int), oks m ν (cellsI l) (l.flatMap encC)
  | [] => oks_nil
  | x :: r => by
    rw [List.flatMap_cons]
    exact oks_cons (by simp only [S.ok]) (oks_cons (by simp only [S.ok]) (cellsI_ok r))
theorem ents_born : ∀ (a b : List Value) (n : Nat), ∀ x ∈ ents a b n, n ≤ x.born ∧ x.born < n + a.length
  | [], b, n, x, h => by simp [ents] at h
  | k :: a, [], n, x, h => by simp [ents] at h
  | k :: a, v :: b, n, x, h => by
    simp only [ents, List.mem_cons] at h
    rcases h with rfl | h
    · simp
    · have := ents_born a b (n + 1) x h
      simp only [List.length_cons]; omega
theorem ents_nodup : ∀ (a b : List Value) (n : Nat), ((ents a b n).map (·.born)).Nodup
  | [], b, n => by simp [ents]
  | k :: a, [], n => by simp [ents]
  | k :: a, v :: b, n => by
    simp only [ents, List.map_cons]
    refine List.nodup_cons.2 ⟨fun h => ?_, ents_nodup a b (n + 1)⟩
    obtain ⟨x, hx, he⟩ := List.mem_map.1 h
    have := ents_born a b (n + 1) x hx
    omega
theorem ents_keys : ∀ (a b : List Value) (n : Nat), a.length = b.length → (ents a b n).map (·.key) = a
  | [], [], n, _ => rfl
  | k :: a, v :: b, n, h => by simp only [ents, List.map_cons]; rw [ents_keys a b (n + 1) (by simpa using h)]
  | [], _ :: _, _, h => by simp at h
  | _ :: _, [], _, h => by simp at h
def decV : Value → Int × Int
  | .agg cs => (match cs.toList with
    | [.int _ a, .int _ b] => (a, b)
    | _ => (0, 0))
  | _ => (0, 0)
theorem decV_encR (p : Int × Int) : decV (encR p) = p := rfl
theorem regions_sem {h : List Ob} {id : Nat} {K : S → List Ob → Prop} (hk : regS h id K) : CallSem noW Tryz.prog 140 [.ptr id (.l 0)] h K := by
  obtain ⟨T, j, ks, vs0, l, ho, hm, hd, hcase⟩ := regS_eq h id K hk
  intro w w0 S0 ν vs H hv
  refine Or.inl ⟨(Tryz.call140 _ w), ?_⟩
  simp only [S.oks, S.ok] at hv
  obtain ⟨v, _, rfl, ⟨hid, rfl⟩, rfl⟩ := hv
  have ho' : h[id]? = some (.cells T [.mp j]) := by
    rcases getO_spec h id with hx | hx
    · rw [hx, ho]
    · rw [hx] at ho; cases ho
  have hm' : h[j]? = some (.mapo ks vs0) := by
    rcases getO_spec h j with hx | hx
    · rw [hx, hm]
    · rw [hx] at hm; cases hm
  obtain ⟨hb0, cs, hcs, hcell⟩ := H.ob id _ ho'
  obtain ⟨_, a, b, ha, hb, hab, hmap⟩ := H.ob j _ hm'
  simp only [S.oks, S.ok] at hcs
  obtain ⟨u, _, rfl, ⟨_, rfl⟩, rfl⟩ := hcs
  have hal := decs_ok hd ha
  subst hal
  have nl0 : (NN.l 0).val = 0 := rfl
  rw [hb0, nl0]
  have hlen : l.length ≤ 12 := by
    rcases hcase with ⟨rfl, _⟩ | ⟨_, _, h12, _⟩
    · simp
    · exact h12
  have hwalk := regions_walk (ν id).blk (ν j).blk (ents (l.map encR) b 0).toArray (l.map encR).length w (by simp [World.cell?, hcell]) hmap
    (fun x hx => by have := ents_born _ _ _ x (by simpa using hx); omega) (by simpa using ents_nodup (l.map encR) b 0)
    (fun x hx => by
      have hx' : x.key ∈ (ents (l.map encR) b 0).map (·.key) := List.mem_map.2 ⟨x, by simpa using hx, rfl⟩
      rw [ents_keys _ _ _ hab] at hx'
      obtain ⟨p, _, hp⟩ := List.mem_map.1 hx'
      exact ⟨p, hp.symm⟩)
    (by simp only [List.size_toArray]; rw [ents_len _ _ _ hab]; simpa using hlen)
  refine hwalk.mono ?_
  rintro e w' ⟨hbel, l', v, rfl, hperm, hasc, hown, hnil⟩
  refine ⟨v, rfl, ?_⟩
  simp only at hperm
  rw [ents_keys _ _ _ hab] at hperm
  have hp2 : l'.Perm l := by
    have := hperm.map decV
    simpa [decV_encR, Function.comp_def] using this
  have hU : Upd [] w w' := ⟨hbel.os, hbel.tape, hbel.output, hbel.size, fun k hk _ => hbel.block k hk⟩
  have hstep := H.step (S1 := []) (w' := w') hU (by simp)
  rcases hcase with ⟨rfl, hK⟩ | ⟨hne, hasb, _, hK⟩
  · have hl0 : l' = [] := List.perm_nil.1 hp2
    rw [hnil hl0]
    exact ⟨_, h, ν, hK, Nat.le_refl _, fun _ _ => rfl, hstep, by simp only [S.ok]⟩
  · have hl' : l' = sortI l := asc_unique (hp2.trans (sortI_perm l).symm) hasc (ascB_ok hasb)
    subst hl'
    have hll : (sortI l).length = l.length := (sortI_perm l).length_eq
    obtain ⟨hol, hor⟩ := hown
    rw [hll] at hol hor
    rcases hor with ⟨rfl, h5⟩ | ⟨g, cap, cur, rfl, hg1, hg2, hg3, hg4, hg5, hg6⟩
    · exact absurd (List.eq_nil_of_length_eq_zero h5) hne
    have hpush := hstep.push (.row 212 2 (.l l.length) (cellsI (sortI l))) ⟨g, 0, cap, l.length⟩ rfl ⟨rfl, _, cur, cellsI_ok _, hg2, by simpa [NN.val] using hg3, hg4, hg5, by simpa [NN.val] using hg6, by simpa [NN.val] using hol, rfl⟩ (Or.inr (Nat.le_trans H.size hg1)) fun j o hj ho => Nat.ne_of_lt (Nat.lt_of_lt_of_le (Ob.holds_lt (H.ob j o hj) ho) hg1)
    refine ⟨_, _, _, hK, by simp, updE_lt, hpush, ?_⟩
    simp only [S.ok, Cap.val, NN.val, updE_eq, Nat.sub_zero, List.length_append, List.length_singleton]
    exact ⟨by omega, hg3, hg4, _, rfl, fun _ => by simp⟩
end Go.SX.Y
