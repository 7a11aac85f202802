/- The document's numbers as bytes. -/
import Derived.Test.YtdmdnijgjgjmkaaProg
import Derived.Test.YtdmdnijgjgjmkaaTapeGet
set_option maxRecDepth 20000
namespace Go.Proofs.Ytdmdnijgjgjmkaa
open Go.RowKit

set_option maxHeartbeats 1000000 in
theorem ref34_put (v : Value) (zs : List Nat) (w : World) (hv : Vec w v zs.length (u64s zs)) (hz : ∀ n ∈ zs, W64 n) (hlen : Held (zs.length ≤ 1000000000000)) :
    Calls Try.prog 30 #[v] w fun e w' => ∃ v', e = .returned v' ∧ w'.ownsRow w.heap.size 5 1 v' (putAll zs).length (bys (putAll zs)) ∧ Upd [] w w' := by
  obtain ⟨a, cap, rfl, hcap, hmax, hcell⟩ := hv
  have hall := putAll_len zs fun n hn => (hz n hn).lt
  go_enter Try.func30, Try.ntmps30
  go_wp2_with fail
  go_loopw [3, 4] (fun out i wr => ∃ (k : Nat), k ≤ zs.length ∧ i = .int .i64 k ∧ wr.ownsRow w.heap.size 5 1 out (putAll (zs.take k)).length (bys (putAll (zs.take k))) ∧ Upd [] w wr) (fun _ i _ => zs.length - (intOf i).toNat)
  case atStart => exact ⟨0, by omega, rfl, own_nil _ _ _ _, Upd.refl _ _⟩
  case round =>
    obtain ⟨k, hk, rfl, hown, hU⟩ := hrel
    by_cases hlt : k < zs.length
    · have hzk : W64 zs[k] := hz _ (List.getElem_mem hlt)
      have hpt := putAll_take zs k hlt
      have hpl : (putAll (zs.take (k + 1))).length ≤ 10 * zs.length := by
        have := putAll_len (zs.take (k + 1)) (fun n hn => (hz n (List.mem_of_mem_take hn)).lt)
        have : (zs.take (k + 1)).length ≤ zs.length := by rw [List.length_take]; omega
        omega
      rcases hcell with h0 | ⟨b, o, rfl, hb, hc⟩
      · have := congrArg List.length h0; simp only [u64s, List.length_map, List.length_nil] at this; omega
      have hck : wr.cell? ⟨b, o + k, none⟩ = some (.int .u64 (zs[k] : Nat)) := (hU.cell hb (by simp)).trans (hc k _ (by simp [u64s, hlt]))
      have hklt : k < cap := Nat.lt_of_lt_of_le hlt hcap
      generalize hzz : zs[k] = z at hzk hpt hck
      generalize hG : putAll (zs.take (k + 1)) = G at hpt hpl
      have hGG : Hid (putAll (zs.take (k + 1)) = G) := hG
      have hPP : Hid (G = putAll (zs.take k) ++ putOne z) := hpt
      have hlong : Held (∀ (xs ys : List Nat) (x : Nat), Hid ((xs ++ [x]) ++ ys = G) → (xs.length + 1) * (1 + 1) ≤ 140737488355328) := ⟨fun xs ys x h => by
        have := congrArg List.length (show _ = G from h)
        simp only [List.length_append, List.length_cons, List.length_nil] at this
        have := hlen.out
        omega⟩
      clear hall hz hzz hc hG hpt hpl
      go_wp2_with fail
      go_loopw [3, 5] (fun out n wr' => ∃ (m : Nat) (xs : List Nat), n = .int .u64 m ∧ W64 m ∧ wr'.ownsRow w.heap.size 5 1 out xs.length (bys xs) ∧ Hid (xs ++ putOne m = G) ∧ Upd [] w wr') (fun _ n _ => (intOf n).toNat)
      case atStart => exact ⟨z, _, rfl, hzk, hown, hPP.symm, hU⟩
      case round =>
        obtain ⟨m, xs, rfl, hm, hown', hxs, hU'⟩ := hrel
        by_cases hm7 : m < 128
        · have hxs' : Hid ((xs ++ [m]) ++ [] = G) := by rw [List.append_nil, ← putOne_lt hm7]; exact hxs
          clear hxs
          go_wp2_with ((with_reducible refine at_push ?_); go_loud (refine wpList_push w.heap.size 5 info_u8 Try.underlying53 rfl (by decide) (by decide) (.int .u8 m) rfl rfl (bys_one' _) hown' rfl rfl (hU'.size) (hlong.out _ _ _ hxs') ?_); intro v1 w1 ho hg)
          case roundEnd =>
            have hX : xs ++ [m] = G := by simpa using (show (xs ++ [m]) ++ [] = G from hxs')
            have hkb : (k : Int) + 1 ≤ 9223372036854775807 := by have := hlen.out; omega
            have hw : wrap64 ((k : Int) + 1) = ((k + 1 : Nat) : Int) := by rw [wrap64_small _ (by omega)]; rfl
            have hl : xs.length + 1 = G.length := by rw [← hX]; simp
            have hbs : bys xs ++ (Value.int .u8 (m : Nat)).cells.toList = bys G := by rw [← hX, bys_append]; rfl
            rw [hw]
            refine ⟨⟨k + 1, by omega, rfl, ?_, hU'.push hown' hg⟩, ?_⟩
            · rw [show putAll (zs.take (k + 1)) = G from hGG, ← hl, ← hbs]; exact ho
            · simp only [intOf]; omega
        · have hxs' : Hid ((xs ++ [m % 128 + 128]) ++ putOne (m / 128) = G) := by rw [List.append_assoc]; exact (congrArg (xs ++ ·) (putOne_ge (n := m) (by omega))).symm.trans hxs
          have hwr : IntKind.u64.wrap ((m : Int) / 128) = (m : Int) / 128 := by have := hm.lt; exact wraps_u64' _ (by omega) (by omega)
          clear hxs
          go_wp2_with ((with_reducible refine at_push ?_); go_loud (refine wpList_push w.heap.size 5 info_u8 Try.underlying53 rfl (by decide) (by decide) (.int .u8 (128 + (m : Int) % 128)) rfl rfl (bys_one' _) hown' rfl rfl (hU'.size) (hlong.out _ _ _ hxs') ?_); intro v1 w1 ho hg)
          case roundEnd =>
            have hv : 128 + (m : Int) % 128 = ((m % 128 + 128 : Nat) : Int) := by omega
            have hbs : bys xs ++ (Value.int .u8 (128 + (m : Int) % 128)).cells.toList = bys (xs ++ [m % 128 + 128]) := by rw [bys_append, hv]; rfl
            refine ⟨⟨m / 128, xs ++ [m % 128 + 128], by simp, ⟨?_⟩, ?_, hxs', hU'.push hown' hg⟩, ?_⟩
            · have := hm.lt; omega
            · rw [← hbs, List.length_append]; exact ho
            · simp only [intOf]; omega
    · have hge : zs.length ≤ k := by omega
      have hkk : zs.take k = zs := List.take_of_length_le hge
      rw [hkk] at hown
      clear hcell hkk hall hz
      go_wp2_with fail
      go_ret
      exact ⟨_, rfl, hown, hU⟩

end Go.Proofs.Ytdmdnijgjgjmkaa
