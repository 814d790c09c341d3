import Derived.Test.YtmjmcmohicjfkaaDoorLayB
/-
  Layout: what the printed functions come to: TakeNode of the reference, TakeMore, ints.
-/
namespace Go.Proofs.YtmjmcmohicjfkaaDoor.lay
open Go.RowKit Go.Proofs.YtmjmcmohicjfkaaDoorW.PrintWords Go.Proofs.YtmjmcmohicjfkaaDoor.PLayoutTakes

theorem str_inj {a b : List Int} (ha : Bytes a) (hb : Bytes b) : (strOfNums a).toList = (strOfNums b).toList ↔ a = b := by
  constructor
  · intro h
    have e : ∀ l : List Int, (strOfNums l).toList = l.map fun n => UInt8.ofNat n.toNat := fun l => by unfold strOfNums; exact ByteArray.toList_mk _
    rw [e, e] at h
    have inv : ∀ l : List Int, Bytes l → (l.map fun n => UInt8.ofNat n.toNat).map (fun u => ((u.toNat : Nat) : Int)) = l := fun l hl => by
      rw [List.map_map]
      have : ∀ n ∈ l, ((fun u : UInt8 => ((u.toNat : Nat) : Int)) ∘ fun n : Int => UInt8.ofNat n.toNat) n = id n := fun n hn => by
        have := hl n hn
        simp only [Function.comp, UInt8.toNat_ofNat', id]
        rw [Nat.mod_eq_of_lt (by omega)]; omega
      rw [List.map_congr_left this, List.map_id]
    rw [← inv a ha, h, inv b hb]
  · rintro rfl; rfl
theorem Bytes.put (y : Ino) : Bytes (putNode y).1 := by
  unfold putNode
  split
  · exact Bytes.node y
  · exact Bytes.nil
theorem taken_eval {b : List Int} (hb : Bytes b) (i : Nat) (hl : b.length ≤ 1000) (hi : i + 1 < b.length) : layout_taken.f (b.drop i) = some (at2 b i) := by
  have h1 := bytes_getD hb i
  have h2 := bytes_getD hb (i + 1)
  unfold layout_taken.f at2
  have e0 : rd (b.drop i) 0 = b.getD i 0 := by unfold rd; simp [List.getD_eq_getElem?_getD]
  have e1 : rd (b.drop i) 1 = b.getD (i + 1) 0 := by unfold rd; simp [List.getD_eq_getElem?_getD]
  rw [if_pos (by rw [List.length_drop]; omega), if_pos (by rw [List.length_drop]; omega), e0, e1, w64 (n := b.getD i 0) (by omega) (by omega), w64 (n := b.getD (i + 1) 0) (by omega) (by omega), w64 (n := b.getD i 0 * 256) (by omega) (by omega)]
  rw [Go.bits_join .i64 63 (by decide) (fun n h0 h1 => IntWalk.i64_in _ (by omega)) 8 (b.getD i 0 * 256) (b.getD (i + 1) 0) (by omega) (by omega) (by omega) (by omega) (by omega) (by omega)]
  congr 1; omega
theorem okAt_lt {b : List Int} {left : Int} {i : Nat} (h : (i : Int) < left) : okAt b left i = blockB (at2 b (2 * i)) := by unfold okAt; rw [if_pos h]
theorem okAt_ge {b : List Int} {left : Int} {i : Nat} (h : ¬ (i : Int) < left) : okAt b left i = decide (at2 b (2 * i) = 0) := by unfold okAt; rw [if_neg h]
theorem from_lt {b : List Int} {left : Int} {i d : Nat} (h : (i : Int) < left) : moreFrom b left i (d + 1) = (blockB (at2 b (2 * i)) && moreFrom b left (i + 1) d) := by rw [← okAt_lt h]; rfl
theorem from_ge {b : List Int} {left : Int} {i d : Nat} (h : ¬ (i : Int) < left) : moreFrom b left i (d + 1) = (decide (at2 b (2 * i) = 0) && moreFrom b left (i + 1) d) := by rw [← okAt_ge h]; rfl
theorem upTo_succ_lt {b : List Int} {left : Int} {i : Nat} (h : (i : Int) < left) : upTo b left (i + 1) = upTo b left i ++ [at2 b (2 * i)] := by
  unfold upTo
  rw [show min (i + 1) left.toNat = i + 1 by omega, show min i left.toNat = i by omega, List.range_succ, List.map_append]
  rfl
theorem upTo_succ_ge {b : List Int} {left : Int} {i : Nat} (h : ¬ (i : Int) < left) : upTo b left (i + 1) = upTo b left i := by
  unfold upTo
  rw [show min (i + 1) left.toNat = min i left.toNat by omega]
theorem upTo_len (b : List Int) (left : Int) (i : Nat) : (upTo b left i).length ≤ i := by unfold upTo; simp; omega
theorem more_l0 {b : List Int} (hb : Bytes b) (hl : b.length = 64) (left : Int) : ∀ (d k i : Nat), i + d = 32 → 2 * d + 1 ≤ k →
    layout_TakeMore.l0 k b left (upTo b left i) (i : Int) = some (if moreFrom b left i d = true then (upTo b left 32, 0) else ([], 4))
  | 0, k + 1, i, hi, _ => by
    obtain rfl : i = 32 := by omega
    simp only [layout_TakeMore.l0]
    rw [if_neg (by omega)]; rfl
  | d + 1, k + 2, i, hi, hk => by
    have ih := more_l0 hb hl left d k (i + 1) (by omega) (by omega)
    have ei : wrap64 ((i : Int) + 1) = ((i + 1 : Nat) : Int) := by rw [w64 (by omega) (by omega)]; omega
    have hlen := upTo_len b left i
    have e2 : wrap64 (2 * (i : Int)) = ((2 * i : Nat) : Int) := by rw [w64 (by omega) (by omega)]; omega
    simp only [layout_TakeMore.l0]
    rw [e2, if_pos (by omega), if_pos (by omega), if_pos (by omega), Int.toNat_natCast, taken_eval hb _ (by omega) (by omega), Option.bind_some]
    by_cases hlt : (i : Int) < left
    · rw [if_neg (by omega), from_lt hlt]
      simp only [layout_TakeMore.j2]
      rw [if_neg (by decide), if_pos hlt, block_eval, Option.bind_some]
      cases hbl : blockB (at2 b (2 * i)) with
      | true =>
        rw [if_pos rfl, if_pos (by omega), ei, ← upTo_succ_lt hlt, ih, Bool.true_and]
      | false => rw [if_neg (by decide), Bool.false_and, if_neg (by decide)]
    · rw [if_pos (by omega), from_ge hlt]
      simp only [layout_TakeMore.j2]
      by_cases hz : at2 b (2 * i) = 0
      · rw [if_pos (by simpa using hz), decide_eq_true hz, Bool.true_and, ei, ← upTo_succ_ge hlt, ih]
      · rw [if_neg (by simpa using hz), if_neg hlt, decide_eq_false hz, Bool.false_and, if_neg (by decide)]
theorem more_eval (k : Nat) {b : List Int} (hb : Bytes b) (left : Int) (hk : 100 ≤ k) : layout_TakeMore.f k b left = some (takeMore b left) := by
  obtain ⟨j, rfl⟩ : ∃ j, k = j + 1 := ⟨k - 1, by omega⟩
  unfold layout_TakeMore.f takeMore
  simp only [layout_TakeMore.j0]
  by_cases hl : b.length = 64
  · rw [if_pos (by omega)]
    by_cases h0 : left < 0
    · rw [if_pos h0, if_pos trivial, if_neg (by omega)]
    · rw [if_neg h0]
      by_cases h1 : left > 32
      · rw [if_pos (by simpa using h1), if_neg (by omega)]
      · rw [if_neg (by simpa using h1)]
        have h := more_l0 hb hl left 32 j 0 (by omega) (by omega)
        have e : upTo b left 0 = [] := by unfold upTo; simp
        rw [e] at h
        have e0 : ((0 : Nat) : Int) = 0 := rfl
        rw [e0] at h
        rw [h]
        unfold moreOk
        by_cases hm : moreFrom b left 0 32 = true
        · rw [if_pos hm, if_pos ⟨by simpa using hl, by omega, by omega, hm⟩]
        · rw [if_neg hm, if_neg (fun hh => hm hh.2.2.2)]
  · rw [if_neg (by omega), if_pos trivial, if_neg (fun hh => hl (by simpa using hh.1))]
theorem ints_l0 (a b : List Int) (hl : a.length = b.length) (hm : a.length ≤ 9223372036854775806) : ∀ (d k i : Nat), i + d = a.length → d < k → majordomolaw03_ints.l0 k a b (i : Int) = some (decide (a.drop i = b.drop i))
  | 0, k + 1, i, hi, _ => by
    simp only [majordomolaw03_ints.l0]
    rw [if_neg (by omega), List.drop_of_length_le (by omega), List.drop_of_length_le (by omega)]
    rfl
  | d + 1, k + 1, i, hi, hk => by
    have h1 : i < a.length := by omega
    have h2 : i < b.length := by omega
    have ih := ints_l0 a b hl hm d k (i + 1) (by omega) (by omega)
    have ei : wrap64 ((i : Int) + 1) = ((i + 1 : Nat) : Int) := by rw [w64 (by omega) (by omega)]; omega
    have g1 : a.getD i 0 = a[i] := by simp [List.getD_eq_getElem?_getD, List.getElem?_eq_getElem h1]
    have g2 : b.getD i 0 = b[i] := by simp [List.getD_eq_getElem?_getD, List.getElem?_eq_getElem h2]
    simp only [majordomolaw03_ints.l0]
    rw [if_pos (by omega), if_pos (by omega), if_pos (by omega), rd_at, rd_at, g1, g2, ei, ih, List.drop_eq_getElem_cons h1, List.drop_eq_getElem_cons h2]
    by_cases he : a[i] = b[i]
    · rw [if_pos he]; congr 1; rw [decide_eq_decide]; simp only [List.cons.injEq, he, true_and]
    · rw [if_neg he]; congr 1; symm; rw [decide_eq_false_iff_not]; simp only [List.cons.injEq, he, false_and, not_false_eq_true]
theorem ints_eval (k : Nat) (a b : List Int) (hm : a.length ≤ 9223372036854775806) (hk : a.length < k) : majordomolaw03_ints.f k a b = some (decide (a = b)) := by
  unfold majordomolaw03_ints.f
  by_cases hl : a.length = b.length
  · rw [if_pos (by omega)]
    have h := ints_l0 a b hl hm a.length k 0 (by omega) hk
    rw [List.drop_zero, List.drop_zero] at h
    exact h
  · rw [if_neg (by omega)]; congr 1; symm; rw [decide_eq_false_iff_not]; exact fun e => hl (by rw [e])
def sameB (x y : Ino) : Bool := decide (x.blocks = y.blocks) && decide (x.kind = y.kind) && decide (x.mode = y.mode) && decide (x.size = y.size) && decide (x.more = y.more)
theorem same_eval (k : Nat) (x y : Ino) (hm : x.blocks.length ≤ 9223372036854775806) (hk : x.blocks.length < k) : majordomolaw03_same.f k x.kind x.mode x.size x.blocks x.more y.kind y.mode y.size y.blocks y.more = some (sameB x y) := by
  unfold majordomolaw03_same.f sameB
  rw [ints_eval k _ _ hm hk, Option.bind_some]
  by_cases h0 : x.blocks = y.blocks
  · rw [decide_eq_true h0, if_pos rfl]
    by_cases h1 : x.kind = y.kind
    · rw [if_pos h1, decide_eq_true h1]
      by_cases h2 : x.mode = y.mode
      · rw [if_pos h2, decide_eq_true h2]
        by_cases h3 : x.size = y.size
        · rw [if_pos h3, decide_eq_true h3]; rfl
        · rw [if_neg h3, decide_eq_false h3]; rfl
      · rw [if_neg h2, decide_eq_false h2]; simp
    · rw [if_neg h1, decide_eq_false h1]; simp
  · rw [decide_eq_false h0, if_neg (by decide)]; simp
theorem sameB_self (x : Ino) : sameB x x = true := by simp [sameB]
end Go.Proofs.YtmjmcmohicjfkaaDoor.lay
