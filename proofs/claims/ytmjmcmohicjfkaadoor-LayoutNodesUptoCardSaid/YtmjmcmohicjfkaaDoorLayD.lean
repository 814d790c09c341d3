import Derived.Test.YtmjmcmohicjfkaaDoorLayC
import Derived.Test.YtmjmcmohicjfkaaDoorTabB
import Derived.Test.YtmjmcmohicjfkaaDoorKb
/-
  Layout: blocks, number, ContainsFunc over numbers.
-/
namespace Go.Proofs.YtmjmcmohicjfkaaDoor.lay
open Go.RowKit Go.Proofs.YtmjmcmohicjfkaaDoorW.PrintWords Go.Proofs.YtmjmcmohicjfkaaDoor.PLayoutTakes Go.Proofs.YtmjmcmohicjfkaaDoor.tab

/-- The table of shapes. -/
structure Shapes (w : World) : Prop where
  c2 : w.cell? ⟨0, 2, none⟩ = some (.int .i64 2432)
  c3 : w.cell? ⟨0, 3, none⟩ = some (.int .i64 64)
  c4 : w.cell? ⟨0, 4, none⟩ = some (.int .i64 16)
  c5 : w.cell? ⟨0, 5, none⟩ = some (.int .i64 2)
  c6 : w.cell? ⟨0, 6, none⟩ = some (.int .i64 120)
  c7 : w.cell? ⟨0, 7, none⟩ = some (.int .i64 64)
theorem Shapes.below {w w1 : World} (h : Shapes w) (hb : Below w.heap.size w w1) : Shapes w1 :=
  ⟨pw_cell_below hb h.c2, pw_cell_below hb h.c3, pw_cell_below hb h.c4, pw_cell_below hb h.c5, pw_cell_below hb h.c6, pw_cell_below hb h.c7⟩

set_option maxRecDepth 100000 in
set_option maxHeartbeats 2000000 in
theorem blocks_any (k s : Int) (w : World) (h : Shapes w) : Calls Tryd.prog 42 #[.int .i64 k, .int .i64 s] w fun e w' => e = .returned (.int .i64 (blocksP k s)) ∧ w' = w := by
  obtain ⟨c2, c3, c4, c5, c6, c7⟩ := h
  by_cases h1 : k < 1
  · have HW := Lib.hid (show blocksP k s = -1 by unfold blocksP; simp only [show ¬ k = 1 by omega, show ¬ k = 2 by omega, show ¬ k = 3 by omega, if_false]; split <;> rfl)
    go_enter Tryd.func42, Tryd.ntmps42
    go_wp2
    go_ret
    exact ⟨ret_i HW.out.symm, rfl⟩
  · have d1 : decide (k < 1) = false := decide_eq_false h1
    by_cases h2 : 3 < k
    · have HW := Lib.hid (show blocksP k s = -1 by unfold blocksP; simp only [show ¬ k = 1 by omega, show ¬ k = 2 by omega, show ¬ k = 3 by omega, if_false]; split <;> rfl)
      have d2 : decide (3 < k) = true := decide_eq_true h2
      go_enter Tryd.func42, Tryd.ntmps42
      go_wp2
      go_ret
      exact ⟨ret_i HW.out.symm, rfl⟩
    · by_cases h3 : s < 0
      · have HW := Lib.hid (show blocksP k s = -1 by unfold blocksP; rw [if_pos h3])
        have d2 : decide (3 < k) = false := decide_eq_false h2
        have d3 : decide (s < 0) = true := decide_eq_true h3
        go_enter Tryd.func42, Tryd.ntmps42
        go_wp2
        go_ret
        exact ⟨ret_i HW.out.symm, rfl⟩
      · have d3 : decide (s < 0) = false := decide_eq_false h3
        have hs : 0 ≤ s := by omega
        clear d1
        have hk : k = 1 ∨ k = 2 ∨ k = 3 := by omega
        rcases hk with rfl | rfl | rfl
        · by_cases h4 : 2432 < s
          · have HW := Lib.hid (show blocksP 1 s = -1 by unfold blocksP; rw [if_neg h3, if_pos rfl, if_neg (by omega)])
            have d4 : decide (2432 < s) = true := decide_eq_true h4
            go_enter Tryd.func42, Tryd.ntmps42
            go_wp2
            go_ret
            exact ⟨ret_i HW.out.symm, rfl⟩
          · have HW := Lib.hid (show blocksP 1 s = (s + 63) / 64 by unfold blocksP; rw [if_neg h3, if_pos rfl, if_pos (by omega)])
            have d4 : decide (2432 < s) = false := decide_eq_false h4
            have h5 : s ≤ 2432 := by omega
            go_enter Tryd.func42, Tryd.ntmps42
            go_wp2
            go_ret
            exact ⟨ret_i (by rw [HW.out]; first | rfl | (congr 1; omega) | omega), rfl⟩
        · by_cases h4 : 16 < s
          · have HW := Lib.hid (show blocksP 2 s = -1 by unfold blocksP; rw [if_neg h3, if_neg (by decide), if_pos rfl, if_neg (by omega)])
            have d4 : decide (16 < s) = true := decide_eq_true h4
            go_enter Tryd.func42, Tryd.ntmps42
            go_wp2
            go_ret
            exact ⟨ret_i HW.out.symm, rfl⟩
          · have HW := Lib.hid (show blocksP 2 s = (s + 1) / 2 by unfold blocksP; rw [if_neg h3, if_neg (by decide), if_pos rfl, if_pos (by omega)])
            have d4 : decide (16 < s) = false := decide_eq_false h4
            have h5 : s ≤ 16 := by omega
            go_enter Tryd.func42, Tryd.ntmps42
            go_wp2
            go_ret
            exact ⟨ret_i (by rw [HW.out]; first | rfl | (congr 1; omega) | omega), rfl⟩
        · by_cases h4 : 120 < s
          · have HW := Lib.hid (show blocksP 3 s = -1 by unfold blocksP; rw [if_neg h3, if_neg (by decide), if_neg (by decide), if_pos rfl, if_neg (by omega)])
            have d4 : decide (120 < s) = true := decide_eq_true h4
            go_enter Tryd.func42, Tryd.ntmps42
            go_wp2
            go_ret
            exact ⟨ret_i HW.out.symm, rfl⟩
          · have HW := Lib.hid (show blocksP 3 s = (s + 63) / 64 by unfold blocksP; rw [if_neg h3, if_neg (by decide), if_neg (by decide), if_pos rfl, if_pos (by omega)])
            have d4 : decide (120 < s) = false := decide_eq_false h4
            have h5 : s ≤ 120 := by omega
            go_enter Tryd.func42, Tryd.ntmps42
            go_wp2
            go_ret
            exact ⟨ret_i (by rw [HW.out]; first | rfl | (congr 1; omega) | omega), rfl⟩

theorem int_at {w : World} {A : Option Addr} {xs : List Int} (h : (Kd.int .i64).C w A xs.length xs) (k : Nat) (hk : k < xs.length) : ∃ ad, A = some ad ∧ w.cell? (ad.add k) = some (.int .i64 xs[k]) := by
  obtain ⟨ad, e, hc⟩ := Kd.at_int h (k : Int) (by omega) (by omega)
  refine ⟨ad, e, ?_⟩
  rw [Int.toNat_natCast] at hc
  rw [hc, rd_at]
  simp [List.getD_eq_getElem?_getD, List.getElem?_eq_getElem hk]
set_option maxHeartbeats 1000000 in
set_option maxRecDepth 100000 in
theorem indexFunc_int (A : Option Addr) (c : Nat) (xs : List Int) (p : Int → Bool) (g : Nat) (lb : Array Value) (w : World) (eg : ∀ args w, (callFunc g args).run Tryd.prog w = .ok (.enter g args) w)
    (hr : (Kd.int .i64).C w A xs.length xs) (hp : ∀ x ∈ xs, ∀ W, Below w.heap.size w W → Calls Tryd.prog g (#[.int .i64 x] ++ lb) W fun e W' => e = .returned (.bool (p x)) ∧ Below W.heap.size W W') :
    Calls Tryd.prog 76 #[.slice A xs.length c, .func (.func g) #[] lb] w fun e w' => e = .returned (.int .i64 (idxP p xs)) ∧ Below w.heap.size w w' := by
  have hmax : xs.length ≤ 9223372036854775807 := hr.2.1
  have HR := Lib.hid hr
  clear hr
  go_enter Tryd.func76, Tryd.ntmps76
  go_wp2
  go_loopw [5, 8] (fun u i wr => ∃ k : Nat, k ≤ xs.length ∧ i = .int .i64 k ∧ NoneYet p xs k ∧ Below w.heap.size w wr) (fun _ i _ => xs.length - (intOf i).toNat)
  case atStart => exact ⟨0, Nat.zero_le _, rfl, fun j hj => by omega, Below.refl _ _⟩
  case round =>
    obtain ⟨k, hk, rfl, hn, hB⟩ := hrel
    by_cases hlt : k < xs.length
    · obtain ⟨ad, rfl, hcell⟩ := int_at (Kd.C_below HR.out hB) k hlt
      have hpk := hp xs[k] (List.getElem_mem hlt) wr hB
      have HP := Lib.hid hpk
      have HY := Lib.hid (fun hv => idxP_at hlt hv (fun j hj => hn j hj (by omega)))
      have HN := Lib.hid (fun hv : p xs[k] = false => hn.succ hlt hv)
      clear hpk hp hn
      generalize xs[k] = x at *
      cases hv : p x with
      | true =>
        have HRES := Lib.hid (HY.out hv)
        rw [hv] at HP
        clear hv
        go_wp2_with (go_at_fn g; refine HP.out.mono ?_; rintro e w1 ⟨rfl, hb⟩)
        go_ret
        exact ⟨ret_i HRES.out.symm, hB.trans (hb.mono hB.size)⟩
      | false =>
        have hn' := HN.out hv
        rw [hv] at HP
        clear hv
        go_wp2_with (go_at_fn g; refine HP.out.mono ?_; rintro e w1 ⟨rfl, hb⟩)
        go_roundw
        case rel => exact ⟨k + 1, by omega, by go_num, hn', hB.trans (hb.mono hB.size)⟩
        case measure => simp [intOf]; omega
    · have hres := idxP_none (p := p) (xs := xs) (fun j hj => hn j (by omega) hj)
      have HRES := Lib.hid hres
      clear hres hp
      go_wp2
      go_ret
      exact ⟨ret_i HRES.out.symm, hB⟩
theorem containsFunc_int (A : Option Addr) (c : Nat) (xs : List Int) (p : Int → Bool) (g : Nat) (lb : Array Value) (w : World) (eg : ∀ args w, (callFunc g args).run Tryd.prog w = .ok (.enter g args) w)
    (hr : (Kd.int .i64).C w A xs.length xs) (hp : ∀ x ∈ xs, ∀ W, Below w.heap.size w W → Calls Tryd.prog g (#[.int .i64 x] ++ lb) W fun e W' => e = .returned (.bool (p x)) ∧ Below W.heap.size W W') :
    Calls Tryd.prog 43 #[.slice A xs.length c, .func (.func g) #[] lb] w fun e w' => e = .returned (.bool (xs.any p)) ∧ Below w.heap.size w w' := by
  have HC := Lib.hid (indexFunc_int A c xs p g lb w eg hr hp)
  have hi : decide (0 ≤ idxP p xs) = xs.any p := by
    have := idxP_range p xs
    cases h : xs.any p with
    | true => exact decide_eq_true (this.2 h)
    | false => exact decide_eq_false (fun h' => by rw [this.1 h'] at h; cases h)
  have HI := Lib.hid hi
  clear hi hr hp
  go_enter Tryd.func43, Tryd.ntmps43
  go_wp2_with (go_at_call 76; refine HC.out.mono ?_; rintro e w1 ⟨rfl, hb⟩)
  go_ret
  exact ⟨ret_b HI.out, hb⟩
theorem lblock_any (n : Int) (w : World) : Calls Tryd.prog 45 #[.int .i64 n] w fun e w' => e = .returned (.bool (blockB n)) ∧ Below w.heap.size w w' :=
  (layout_block.calls n (blockB n) w (block_eval n)).mono fun e w' h => ⟨h.1, h.2.below⟩
theorem enters_put1 : ∀ args w, (callFunc 44 args).run Tryd.prog w = .ok (.enter 44 args) w := enters_of Tryd.func44 (by kernel_rfl) rfl
theorem put1_any (n : Int) (w : World) : Calls Tryd.prog 44 #[.int .i64 n] w fun e w' => e = .returned (.bool !(blockB n)) ∧ Below w.heap.size w w' := by
  go_enter Tryd.func44, Tryd.ntmps44
  go_wp2_with (go_at_call 45; refine (lblock_any n _).mono ?_; rintro e w1 ⟨rfl, hb⟩)
  go_ret
  exact ⟨rfl, hb⟩

/-- The bytes of a block. -/
def byt (l : List Int) : List Value := l.map (Value.int .u8)
set_option maxRecDepth 100000 in
theorem number_blk (g o n c : Nat) (v : Int) (cs : Array Value) (w : World) (hb : w.heap[g]? = some (.cells cs 5 (0, 0))) (ho : o + 2 ≤ cs.size) (hn : 2 ≤ n) (hv0 : 0 ≤ v) (hv1 : v ≤ 65535) :
    Calls Tryd.prog 46 #[.slice (some ⟨g, o, none⟩) n c, .int .i64 v] w fun e w' => e = .returned (.tuple #[]) ∧ w' = (w.setCell ⟨g, o, none⟩ (.int .u8 (v / 256 % 256))).setCell ⟨g, o + 1, none⟩ (.int .u8 (v % 256)) := by
  rw [show v / 256 % 256 = v / 256 by omega]
  have c0 : w.cell? ⟨g, o, none⟩ = some cs[o] := (blk_cell hb o).trans (Array.getElem?_eq_getElem (by omega))
  have f0 := blk_frozen hb o
  have hb1 := blk_put hb o (.int .u8 (v / 256)) rfl
  have c1 : (w.setCell ⟨g, o, none⟩ (.int .u8 (v / 256))).cell? ⟨g, o + 1, none⟩ = some cs[o + 1] := by
    rw [blk_cell hb1, Array.getElem?_setIfInBounds, if_neg (by omega)]
    exact Array.getElem?_eq_getElem (by omega)
  have f1 := blk_frozen hb1 (o + 1)
  have hn0 : (0 : Int) < (n : Int) := by omega
  have hn1 : (1 : Int) < (n : Int) := by omega
  generalize cs[o] = y0 at *
  generalize cs[o + 1] = y1 at *
  clear hb hb1
  go_enter Tryd.func46, Tryd.ntmps46
  go_wp2
  go_end0
  exact ⟨rfl, rfl⟩
end Go.Proofs.YtmjmcmohicjfkaaDoor.lay
