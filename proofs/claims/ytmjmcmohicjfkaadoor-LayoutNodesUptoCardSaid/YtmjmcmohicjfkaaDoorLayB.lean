import Derived.Test.YtmjmcmohicjfkaaDoorLayA
import Derived.Test.YtmjmcmohicjfkaaDoorPkA
import Derived.Test.YtmjmcmohicjfkaaDoorPLayoutTakesx4
import Derived.Laws.BitsLemmas
/-
  Layout: what the printed functions come to.
-/
namespace Go.Proofs.YtmjmcmohicjfkaaDoor.lay
open Go.RowKit Go.Proofs.YtmjmcmohicjfkaaDoorW.PrintWords Go.Proofs.YtmjmcmohicjfkaaDoor.PLayoutTakes

theorem w64 {n : Int} (h1 : -9223372036854775808 ≤ n) (h2 : n ≤ 9223372036854775807) : wrap64 n = n := by unfold wrap64; omega
theorem block_eval (n : Int) : layout_block.f n = some (blockB n) := by
  unfold layout_block.f blockB
  by_cases h : n > 0
  · rw [if_pos h]; congr 1; rw [decide_eq_decide]; omega
  · rw [if_neg h]; congr 1; symm; rw [decide_eq_false_iff_not]; omega
theorem rblock_eval (n : Int) : majordomoref03_block.f n = some (blockB n) := by
  unfold majordomoref03_block.f blockB
  by_cases h : n ≥ 1
  · rw [if_pos h]; congr 1; rw [decide_eq_decide]; omega
  · rw [if_neg h]; congr 1; symm; rw [decide_eq_false_iff_not]; omega
theorem rdata_eval (k : Nat) (a s : Int) : majordomoref03_data.f (k + 2) a s = some (blocksP a s) := by
  unfold majordomoref03_data.f blocksP
  by_cases h0 : s < 0
  · rw [if_pos h0, if_pos h0]
  · rw [if_neg h0, if_neg h0]
    simp only [majordomoref03_data.j0, majordomoref03_data.j1]
    have e1 : s ≤ 2432 → wrap64 (Int.tdiv (wrap64 (s + 63)) 64) = (s + 63) / 64 := fun h => by
      rw [w64 (n := s + 63) (by omega) (by omega), Int.tdiv_eq_ediv_of_nonneg (by omega), w64 (by omega) (by omega)]
    have e2 : s ≤ 16 → wrap64 (Int.tdiv (wrap64 (s + 1)) 2) = (s + 1) / 2 := fun h => by
      rw [w64 (n := s + 1) (by omega) (by omega), Int.tdiv_eq_ediv_of_nonneg (by omega), w64 (by omega) (by omega)]
    by_cases h1 : a = 1
    · subst h1
      by_cases h2 : s ≤ 2432
      · simp [h2, e1 h2]
      · simp [h2]
    · by_cases h2 : a = 2
      · subst h2
        by_cases h4 : s ≤ 16
        · simp [h4, e2 h4]
        · simp [h4]
      · by_cases h3 : a = 3
        · subst h3
          by_cases h4 : s ≤ 120
          · simp [h4, e1 (by omega)]
          · simp [h4]
        · simp [h1, h2, h3]
theorem rd_at {l : List Int} {i : Nat} : rd l (i : Int) = l.getD i 0 := by unfold rd; rw [Int.toNat_natCast]
/-- What is behind the blocks' loop. -/
def tailB (n more : Int) : Bool := if 6 < n then blockB more else decide (more = 0)
theorem rmay_l0 (k1 k2 k3 : Int) (l : List Int) (more : Int) (hl : l.length ≤ 38) : ∀ (d : Nat) (k i : Nat), i + d = l.length → d < k →
    majordomoref03_may.l0 k (l.length : Int) (i : Int) k1 k2 k3 l more = some ((l.drop i).all blockB && tailB (l.length : Int) more)
  | 0, k + 1, i, hi, _ => by
    simp only [majordomoref03_may.l0]
    rw [if_neg (by omega), List.drop_of_length_le (by omega), List.all_nil, Bool.true_and]
    unfold tailB
    by_cases h6 : (l.length : Int) > 6
    · rw [if_pos h6, if_pos h6, rblock_eval, Option.bind_some]
      cases hb : blockB more with
      | true => rw [if_pos rfl]
      | false => rw [if_neg (by decide), if_neg (by omega)]
    · rw [if_neg h6, if_neg h6, if_pos (by omega)]
      congr 1
  | d + 1, k + 1, i, hi, hk => by
    have hlt : i < l.length := by omega
    simp only [majordomoref03_may.l0]
    rw [if_pos (by omega), if_pos (by omega), if_pos (by omega), rblock_eval, Option.bind_some, rd_at, w64 (by omega) (by omega)]
    have hd : l.drop i = l[i] :: l.drop (i + 1) := List.drop_eq_getElem_cons hlt
    have hg : l.getD i 0 = l[i] := by simp [List.getD_eq_getElem?_getD, List.getElem?_eq_getElem hlt]
    rw [hd, List.all_cons, hg]
    cases hb : blockB l[i] with
    | true =>
      rw [if_pos rfl, Bool.true_and]
      exact rmay_l0 k1 k2 k3 l more hl d k (i + 1) (by omega) (by omega)
    | false => rw [if_neg (by decide)]; rfl
theorem rmay_eval (k : Nat) (x : Ino) (hk : 60 ≤ k) : majordomoref03_may.f k x.kind x.mode x.size x.blocks x.more = some (mayB x) := by
  obtain ⟨j, rfl⟩ : ∃ j, k = j + 2 := ⟨k - 2, by omega⟩
  unfold majordomoref03_may.f
  rw [rdata_eval, Option.bind_some]
  have hr := blocksP_range x.kind x.size
  unfold mayB
  generalize blocksP x.kind x.size = n at *
  obtain ⟨kind, mode, size, l, more⟩ := x
  simp only [majordomoref03_may.j0]
  by_cases h0 : n < 0
  · rw [if_pos h0, if_pos trivial]
    have : decide (0 ≤ n) = false := by simp; omega
    rw [this]; rfl
  · rw [if_neg h0]
    have e0 : decide (0 ≤ n) = true := by simp; omega
    rw [e0, Bool.true_and]
    by_cases h1 : mode < 0
    · rw [if_pos h1, if_pos trivial]
      have : decide (0 ≤ mode) = false := by simp; omega
      rw [this]; simp
    · rw [if_neg h1]
      have e1 : decide (0 ≤ mode) = true := by simp; omega
      rw [e1, Bool.and_true]
      by_cases h2 : mode > 4095
      · rw [if_pos h2, if_pos trivial]
        have : decide (mode ≤ 4095) = false := by simp; omega
        rw [this]; simp
      · rw [if_neg h2]
        have e2 : decide (mode ≤ 4095) = true := by simp; omega
        rw [e2, Bool.and_true]
        by_cases h3 : (l.length : Int) = n
        · subst h3
          rw [if_neg (by simp), decide_eq_true rfl, Bool.true_and]
          exact rmay_l0 _ _ _ l more (by omega) l.length (j + 1) 0 (by omega) (by omega)
        · rw [if_pos (by simpa using h3)]
          have : decide (n = (l.length : Int)) = false := by simp; omega
          rw [this]; rfl
theorem rtwo_eval (l : List Int) (n : Int) (hl : l.length ≤ 1000) (h0 : 0 ≤ n) (h1 : n ≤ 65535) : majordomoref03_two.f l n = some (l ++ two n) := by
  unfold majordomoref03_two.f two
  rw [Option.bind_some, if_pos (by simp; omega), Int.tdiv_eq_ediv_of_nonneg h0, Int.tmod_eq_emod_of_nonneg h0, w64 (by omega) (by omega), Int.emod_emod_of_dvd n (Int.dvd_refl 256)]
theorem rpad_eval (n : Nat) (hn : n ≤ 1000) : ∀ (d k : Nat) (l : List Int), n - l.length = d → l.length ≤ 1000 → d < k → majordomoref03_pad.f k l (n : Int) = some (padTo l n)
  | 0, k + 1, l, hd, _, _ => by
    unfold majordomoref03_pad.f padTo
    simp only [majordomoref03_pad.l0]
    rw [if_neg (by omega), hd]
    simp
  | d + 1, k + 1, l, hd, hl, hk => by
    have h := rpad_eval n hn d k (l ++ [0]) (by simp; omega) (by simp; omega) (by omega)
    unfold majordomoref03_pad.f at h ⊢
    simp only [majordomoref03_pad.l0]
    rw [if_pos (by omega), if_pos (by omega), h]
    unfold padTo
    have e : n - (l ++ [0]).length = d := by simp; omega
    rw [hd, List.append_assoc, e, List.replicate_succ]
    rfl
theorem rput_l0 (k1 k2 k3 : Int) (l hd : List Int) (more : Int) (hl : l.length ≤ 38) (hb : ∀ b ∈ l, 0 ≤ b ∧ b ≤ 65535) (hh : hd.length = 7) : ∀ (d : Nat) (k i : Nat), i + d = l.length → d + 70 < k →
    majordomoref03_PutNode.l0 k (hd ++ twos ((l.take i).take 6)) (twos ((l.take i).drop 6)) (i : Int) k1 k2 k3 l more = some (padTo (hd ++ twos (l.take 6)) 32, if 6 < l.length then padTo (twos (l.drop 6)) 64 else [], 0)
  | 0, k + 1, i, hi, hk => by
    obtain rfl : i = l.length := by omega
    simp only [majordomoref03_PutNode.l0]
    rw [if_neg (by omega), List.take_length]
    have h32 := rpad_eval 32 (by omega) (32 - (hd ++ twos (l.take 6)).length) k (hd ++ twos (l.take 6)) rfl (by rw [List.length_append, twos_length, List.length_take]; omega) (by omega)
    by_cases h6 : 6 < l.length
    · rw [if_pos (by rw [twos_length, List.length_drop]; omega)]
      have h64 := rpad_eval 64 (by omega) (64 - (twos (l.drop 6)).length) k (twos (l.drop 6)) rfl (by rw [twos_length, List.length_drop]; omega) (by omega)
      have e64 : ((64 : Nat) : Int) = 64 := rfl
      have e32 : ((32 : Nat) : Int) = 32 := rfl
      rw [e64] at h64
      rw [e32] at h32
      rw [h64, Option.bind_some, h32, Option.bind_some, if_pos h6]
    · rw [if_neg (by rw [twos_length, List.length_drop]; omega)]
      have e32 : ((32 : Nat) : Int) = 32 := rfl
      rw [e32] at h32
      rw [h32, Option.bind_some, if_neg h6, List.drop_of_length_le (by omega)]
      rfl
  | d + 1, k + 1, i, hi, hk => by
    have hlt : i < l.length := by omega
    have hg : l.getD i 0 = l[i] := by simp [List.getD_eq_getElem?_getD, List.getElem?_eq_getElem hlt]
    have hbi := hb l[i] (List.getElem_mem hlt)
    have htk : l.take (i + 1) = l.take i ++ [l[i]] := List.take_succ_eq_append_getElem hlt
    have ih := rput_l0 k1 k2 k3 l hd more hl hb hh d k (i + 1) (by omega) (by omega)
    have ei : ((i + 1 : Nat) : Int) = (i : Int) + 1 := by omega
    rw [ei] at ih
    simp only [majordomoref03_PutNode.l0]
    rw [if_pos (by omega), if_pos (by omega : (0 : Int) ≤ (i : Int)), if_pos (by omega : (0 : Int) ≤ (i : Int)), rd_at, hg, w64 (by omega) (by omega)]
    have hti : (l.take i).length = i := by rw [List.length_take]; omega
    by_cases h6 : i < 6
    · rw [if_pos (by omega), rtwo_eval _ _ (by rw [List.length_append, twos_length, List.length_take, List.length_take]; omega) hbi.1 hbi.2, Option.bind_some]
      rw [htk, List.take_of_length_le (by simp; omega), List.drop_of_length_le (by simp; omega), twos_snoc] at ih
      rw [List.take_of_length_le (by omega), List.drop_of_length_le (by omega), List.append_assoc]
      exact ih
    · rw [if_neg (by omega), rtwo_eval _ _ (by rw [twos_length, List.length_drop]; omega) hbi.1 hbi.2, Option.bind_some]
      rw [htk, List.take_append_of_le_length (by omega), List.drop_append_of_le_length (by omega), twos_snoc] at ih
      exact ih
theorem rput_eval (k : Nat) (x : Ino) (hk : 120 ≤ k) : majordomoref03_PutNode.f k x.kind x.mode x.size x.blocks x.more = some (putNode x) := by
  unfold majordomoref03_PutNode.f putNode
  rw [rmay_eval k x (by omega), Option.bind_some]
  cases h : mayB x with
  | false => rw [if_neg (by decide), if_neg (by decide)]
  | true =>
    rw [if_pos rfl, if_pos rfl]
    obtain ⟨h1, h2, h3, h4, h5, _⟩ := mayB_parts h
    have h6 := mayB_more h
    have h7 := blocksP_kind h1
    have h8 := blocksP_range x.kind x.size
    rw [rtwo_eval _ _ (by simp) h4 (by omega), Option.bind_some, rtwo_eval _ _ (by simp [two]) h7.2.2.1 (by omega), Option.bind_some, rtwo_eval _ _ (by simp [two]) h6.1 (by omega), Option.bind_some]
    exact rput_l0 _ _ _ x.blocks (headBytes x) _ (by omega) (fun b hb => by have := h3 b hb; omega) (head_length x) x.blocks.length k 0 (by omega) (by omega)
end Go.Proofs.YtmjmcmohicjfkaaDoor.lay
