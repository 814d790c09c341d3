import Derived.Test.YtmjmcmohicjfkaaDoorLayI
/-
  Layout: TakeNode of 32 bytes.
-/
namespace Go.Proofs.YtmjmcmohicjfkaaDoor.lay
open Go.RowKit Go.Proofs.YtmjmcmohicjfkaaDoorW.PrintWords Go.Proofs.YtmjmcmohicjfkaaDoorW.PrintMore Go.Proofs.YtmjmcmohicjfkaaDoor.PLayoutTakes Go.Proofs.YtmjmcmohicjfkaaDoor.tab
attribute [local go_sem] max2_int min2_int max_two min_two

/-- The node as it lies. -/
def nodeIs (W : World) (g : Nat) (k m s : Int) (v : Value) (o : Int) : Prop := W.heap[g]? = some (.cells #[.int .i64 k, .int .i64 m, .int .i64 s, v, .int .i64 o] 32 (0, 0))
theorem nodeIs.cells {W : World} {g : Nat} {k m s o : Int} {v : Value} (h : nodeIs W g k m s v o) : W.cell? ⟨g, 0, none⟩ = some (.int .i64 k) ∧ W.cell? ⟨g, 1, none⟩ = some (.int .i64 m) ∧ W.cell? ⟨g, 2, none⟩ = some (.int .i64 s) ∧ W.cell? ⟨g, 3, none⟩ = some v ∧ W.cell? ⟨g, 4, none⟩ = some (.int .i64 o) :=
  ⟨(blk_cell h 0).trans rfl, (blk_cell h 1).trans rfl, (blk_cell h 2).trans rfl, (blk_cell h 3).trans rfl, (blk_cell h 4).trans rfl⟩
set_option maxRecDepth 100000 in
set_option maxHeartbeats 8000000 in
theorem take_32 (b : List Int) (A : Option Addr) (c : Nat) (w : World) (hb : Bytes b) (hl : b.length = 32) (hr : (Kd.int .u8).C w A b.length b) (hc : b.length ≤ c) (hS : Shapes w) :
    Calls Tryd.prog 15 #[.slice A b.length c] w (TakePost b w) := by
  obtain ⟨ad, rfl⟩ : ∃ ad, A = some ad := by
    obtain ⟨ad, e, _⟩ := hr.2.2 (by omega)
    exact ⟨ad, e⟩
  have hc1 : ¬ (c = 1) := by omega
  have hc3 : ¬ (c = 3) := by omega
  have hc5 : ¬ (c = 5) := by omega
  have hc32 : (32 : Int) ≤ (c : Int) := by omega
  have hcb0 := (Kd.at_int (k := .u8) hr 0 (by omega) (by omega))
  obtain ⟨ad', e, hcb⟩ := hcb0
  obtain rfl := Option.some.inj e
  have hcb2 : w.cell? ad = some (.int .u8 (b.getD 0 0)) := by
    have e0 : rd b 0 = b.getD 0 0 := rd_at (i := 0)
    rw [e0] at hcb
    simpa [Addr.add] using hcb
  have hb0 := bytes_getD hb 0
  obtain ⟨W0, hW0⟩ : ∃ W0, w.alloc (.cells #[.int .i64 0, .int .i64 0, .int .i64 0, .slice none 0 0, .int .i64 0] 32) = W0 := ⟨_, rfl⟩
  have hB0 : Below w.heap.size w W0 := by rw [← hW0]; exact below_alloc (Below.refl _ _) _
  have x0 : nodeIs W0 w.heap.size 0 0 0 (.slice none 0 0) 0 := by rw [← hW0]; exact blk_new _ _
  have s0 : w.heap.size < W0.heap.size := blk_lt x0
  have HR := Lib.hid hr
  have HS := Lib.hid hS
  have HB0 := Lib.hid hB0
  have HX := Lib.hid x0
  have HBY := Lib.hid hb
  have HTK := Lib.hid (fun (i n c' : Nat) (W : World) (h : Below w.heap.size w W) (h1 : i + 1 < 32) (h2 : 1 ≤ i) (h3 : n = 32 - i) (h4 : n ≤ c') => taken_any b ad i n c' W hb (by omega) (Kd.C_below hr h) (by omega) h2 (by omega) h4)
  have HTA := Lib.hid (fun (i n c' : Nat) (W : World) (h : Below w.heap.size w W) (h1 : i + 1 < 32) (h2 : 1 ≤ i) (h3 : n = 32 - i) (h4 : n ≤ c') => taken_add b ad i n c' W hb (by omega) (Kd.C_below hr h) (by omega) h2 (by omega) h4)
  have y0 := pw_cell_below hB0 hcb2
  have HL := Lib.hid hl
  rw [hl]
  have hx3 := at2_range hb 3
  have hx1 := at2_range hb 1
  have hx5 := at2_range hb 5
  have hnr := blocksP_range (b.getD 0 0) (at2 b 3)
  have HTN := Lib.hid (show takeNode b = if goodNode b = true then (readNode b, leftOf b, 0) else (Ino.zero, 0, 4) from rfl)
  have HGN := Lib.hid (show goodNode b = (decide (0 ≤ blocksP (b.getD 0 0) (at2 b 3)) && mayB (fullNode b) && decide (nodeBytes (fullNode b) = b)) by unfold goodNode; rw [decide_eq_true hl, Bool.true_and])
  have HRN := Lib.hid (show readNode b = ⟨b.getD 0 0, at2 b 1, at2 b 3, (List.range (min (blocksP (b.getD 0 0) (at2 b 3)).toNat 6)).map fun i => at2 b (7 + 2 * i), at2 b 5⟩ from rfl)
  have HLO := Lib.hid (show leftOf b = max 0 (blocksP (b.getD 0 0) (at2 b 3) - 6) from rfl)
  have HBL := Lib.hid (fun W h => blocks_any (b.getD 0 0) (at2 b 3) W h)
  clear hr hS hB0 x0 hcb hcb2 e hc hb
  generalize hk0 : b.getD 0 0 = k0 at *
  have HK0 := Lib.hid hk0
  clear hk0
  generalize hn : blocksP k0 (at2 b 3) = n at *
  have HN := Lib.hid hn
  clear hn
  go_enter Tryd.func15, Tryd.ntmps15
  go_wp2
  refine reg.region_last (S := Below W0.heap.size W0) (by kernel_rfl) (by kernel_rfl) (below_drew (Below.refl _ _)) ?_
  iterate 14
    apply reg.last_cons
    case h =>
      intro W hS
      have z0 := pw_cell_below hS y0
      have HS' := Lib.hid hS
      clear hS
      go_wp2_with (go_at_call 50; refine (HTK.out _ _ _ _ (below_step HB0.out HS'.out) (by omega) (by omega) (by omega) (by omega)).mono ?_; rintro e w' ⟨rfl, hb'⟩; replace HS' := Lib.hid (below_step HS'.out hb'))
      exact ⟨rfl, rfl, HS'.out⟩
    try simp only [Act.put, List.setIfInBounds_toArray, List.set_cons_zero, List.set_cons_succ]
  apply reg.last_one
  intro W hS
  have hWx := blk_below HX.out hS
  obtain ⟨W1, W2, W3, W4, W5, e1, e2, e3, e4, e5, ⟨f0, f1, f2, f3, f4, f5, f6, f7, f8, f9⟩, hx5', hs5', hg5⟩ := five_cells hWx (.int .i64 k0) (.int .i64 (at2 b 1)) (.int .i64 (at2 b 3)) (.slice none 0 0) (.int .i64 (at2 b 5))
  have hB5 : Below w.heap.size w W5 := (below_step HB0.out hS).grown hg5 (by have := hS.size; omega) (fun k hk => by have := Option.some.inj hk; omega)
  have HX5 := Lib.hid (show nodeIs W5 w.heap.size k0 (at2 b 1) (at2 b 3) (.slice none 0 0) (at2 b 5) from hx5')
  have HB5 := Lib.hid hB5
  obtain ⟨g0, g1, g2, g3, g4⟩ := HX5.out.cells
  have hsW := hS.size
  clear hWx hx5' hs5' hg5 hB5 hS
  go_wp2_with fail
  refine (HBL.out W5 (HS.out.below HB5.out)).mono ?_
  intro e w6 h6
  rw [h6.1, h6.2]
  clear h6
  by_cases hneg : n < 0
  · have hd : decide (n < 0) = true := decide_eq_true hneg
    have HT := Lib.hid (show takeNode b = (Ino.zero, 0, 4) by rw [HTN.out, HGN.out, decide_eq_false (by omega), Bool.false_and, Bool.false_and]; rfl)
    obtain ⟨V1, V2, V3, V4, V5, d1, d2, d3, d4, d5, ⟨i0, i1, i2, i3, i4, i5, i6, i7, i8, i9⟩, hv5, hsv, hgv⟩ := five_cells HX5.out (.int .i64 0) (.int .i64 0) (.int .i64 0) (.slice none 0 0) (.int .i64 0)
    have HV := Lib.hid (And.intro hv5 (HB5.out.grown hgv HB5.out.size (fun k hk => by have := Option.some.inj hk; omega)))
    clear hv5 hsv hgv
    go_wp2
    obtain ⟨hx5, hB5⟩ := HV.out
    have q0 : V5.cell? ⟨w.heap.size, 0, none⟩ = some (.int .i64 0) := (blk_cell hx5 0).trans rfl
    have q1 : V5.cell? ⟨w.heap.size, 1, none⟩ = some (.int .i64 0) := (blk_cell hx5 1).trans rfl
    have q2 : V5.cell? ⟨w.heap.size, 2, none⟩ = some (.int .i64 0) := (blk_cell hx5 2).trans rfl
    have q3 : V5.cell? ⟨w.heap.size, 3, none⟩ = some (.slice none 0 0) := (blk_cell hx5 3).trans rfl
    have q4 : V5.cell? ⟨w.heap.size, 4, none⟩ = some (.int .i64 0) := (blk_cell hx5 4).trans rfl
    refine bodyPost_ret (v := .tuple #[.agg #[.int .i64 0, .int .i64 0, .int .i64 0, .slice none 0 0, .int .i64 0], .int .i64 0, .int .i64 4]) (by simp [results, Tryd.f15, go_sem, q0, q1, q2, q3, q4]) rfl ?_
    unfold TakePost
    rw [HT.out]
    exact ⟨_, rfl, Kd.R_nil _ _ _ _ _, hB5⟩
  · obtain ⟨m, rfl⟩ := Int.eq_ofNat_of_zero_le (show 0 ≤ n by omega)
    have hd : decide ((m : Int) < 0) = false := decide_eq_false (by omega)
    have hm : m ≤ 38 := by omega
    clear hneg e1 e2 e3 e4 e5 f0 f1 f2 f3 f4 f5 f6 f7 f8 f9 y0
    by_cases h6 : m ≤ 6
    · have HAT := Lib.hid (fun i => at2_range HBY.out i)
      go_wp2_with fail
      go_loopw [39, 6] (fun i j wr => ∃ (k : Nat) (v : Value), k ≤ m ∧ i = .int .i64 k ∧ nodeIs wr w.heap.size k0 (at2 b 1) (at2 b 3) v (at2 b 5) ∧ (Kd.int .i64).R 3 wr w.heap.size (fun j => w.heap.size ≤ j) v ((List.range k).map fun j => at2 b (7 + 2 * j)) ∧ Below w.heap.size w wr) (fun i _ _ => m - (intOf i).toNat)
      case atStart => exact ⟨0, _, Nat.zero_le _, rfl, HX5.out, Kd.R_nil _ _ _ _ _, HB5.out⟩
      case round =>
        obtain ⟨k, v, hk, rfl, hx, hv, hbw⟩ := hrel
        by_cases hlt : k < m
        · have hd2 : decide ((k : Int) < (m : Int)) = true := decide_eq_true (by omega)
          have hrl : ((List.range k).map fun j => at2 b (7 + 2 * j)).length = k := by simp
          obtain ⟨A1, c1, rfl⟩ := Kd.R_slice hv
          rw [hrl] at hv hx
          have HV := Lib.hid hv
          have HXX := Lib.hid hx
          have HBW := Lib.hid hbw
          have hk7 : ¬ (c = 7 + 2 * k) := by omega
          have hlow : ∀ j, (Value.slice A1 k c1).ownBlock = some j → j < wr.heap.size := fun j hj => Kd.R_lt hv j hj
          have hne := Kd.R_ne hv hx (by decide)
          have hgx := blk_lt hx
          have hat2 := HAT.out (7 + 2 * k)
          have HRG := Lib.hid (show ((List.range (k + 1)).map fun j => at2 b (7 + 2 * j)) = ((List.range k).map fun j => at2 b (7 + 2 * j)) ++ [at2 b (7 + 2 * k)] by rw [List.range_succ, List.map_append]; rfl)
          obtain ⟨p0, p1, p2, p3, p4⟩ := hx.cells
          clear hv hx
          go_wp2_with fail
          refine reg.region_chain_wp [false, false, false, false, false, false, false, true, true, true, true, true] (T := fun W' => W'.cell? ⟨w.heap.size, 3, none⟩ = some (.slice A1 k c1)) (by kernel_rfl) rfl (by kernel_rfl) ?_
          dsimp only [reg.splitQ, reg.splitM]
          iterate 7
            apply reg.read_cons
            case h =>
              intro W' hT
              go_wp2
              exact ⟨rfl, _, rfl, rfl, rfl⟩
            try simp only [Act.put, List.setIfInBounds_toArray, List.set_cons_zero, List.set_cons_succ]
          apply reg.read_nil
          refine reg.chain_cons p3 ?_
          go_wp2_with fail
          refine (HTA.out (7 + 2 * k) _ _ wr.drew (below_drew HBW.out) (by omega) (by omega) rfl (by omega)).mono ?_
          rintro e w7 ⟨rfl, hb7⟩
          have hB7 := below_step (below_drew HBW.out) hb7
          have hx7 : nodeIs w7 w.heap.size k0 (at2 b 1) (at2 b 3) (.slice A1 k c1) (at2 b 5) := blk_below (w := wr.drew) HXX.out hb7
          have HV7 := Lib.hid (Kd.R_below (w := wr.drew) HV.out hb7)
          have hz7 := hb7.size
          go_wp2_with fail
          refine ⟨rfl, _, rfl, ?_⟩
          try simp only [Act.put, List.setIfInBounds_toArray, List.set_cons_zero, List.set_cons_succ]
          refine reg.chain_cons hx7.cells.2.2.2.1 ?_
          go_wp2
          refine ⟨rfl, _, rfl, ?_⟩
          try simp only [Act.put, List.setIfInBounds_toArray, List.set_cons_zero, List.set_cons_succ]
          refine reg.chain_cons (blk_alloc hx7 _ |> fun h => (show nodeIs _ w.heap.size k0 (at2 b 1) (at2 b 3) (.slice A1 k c1) (at2 b 5) from h).cells.2.2.2.1) ?_
          refine Kd.R_append (Kd.int .i64) w.heap.size rfl (.tmp 43) (.tmp 50) 30 3 (.int .i64 0) 8 rfl Tryd.underlying30 (by kernel_rfl) rfl (by decide) (by decide) (.slice A1 k c1) ((List.range k).map fun j => at2 b (7 + 2 * j)) (at2 b (7 + 2 * k)) [.int .i64 (at2 b (7 + 2 * k))]
            (fun j => w.heap.size ≤ j) (fun _ => False) rfl rfl rfl (fun j hj => hj.elim) (fun j hj => by have := hB7.size; omega) HV7.out (w0 := w) hB7 hB7.size (by simp; omega) ?_
          intro v8 w8 hR8 hB8 hg8 hat8
          rw [← HRG.out] at hR8
          have hx8 : nodeIs w8 w.heap.size k0 (at2 b 1) (at2 b 3) (.slice A1 k c1) (at2 b 5) := blk_grown hx7 hg8 hne
          have hk8 := (Kd.R_val hR8).2
          have HR8 := Lib.hid hR8
          refine ⟨rfl, _, rfl, ?_⟩
          try simp only [Act.put, List.setIfInBounds_toArray, List.set_cons_zero, List.set_cons_succ]
          refine reg.chain_cons hx8.cells.2.2.2.1 ?_
          go_wp2
          refine ⟨rfl, _, rfl, ?_⟩
          try simp only [Act.put, List.setIfInBounds_toArray, List.set_cons_zero, List.set_cons_succ]
          refine reg.chain_cons hx8.cells.2.2.2.1 ?_
          have z3 := hx8.cells.2.2.2.1
          have zf := blk_frozen hx8 3
          have hx9 : nodeIs (w8.setCell ⟨w.heap.size, 3, none⟩ v8) w.heap.size k0 (at2 b 1) (at2 b 3) v8 (at2 b 5) := blk_put hx8 3 v8 rfl
          have hR9 := Kd.R_set hR8 hx8 (by decide) 3 v8
          have hB9 := below_set (j := 3) (v := v8) hB8 (Nat.le_refl _)
          obtain ⟨A8, c8, rfl⟩ := Kd.R_slice hR8
          rw [show ((List.range (k + 1)).map fun j => at2 b (7 + 2 * j)).length = k + 1 by simp] at *
          have H9 := Lib.hid (And.intro hx9 (And.intro hR9 hB9))
          clear hR8 hx8 hx9 hR9 hB9 hB8 hg8 hat8 hk8
          go_wp2
          refine ⟨rfl, undef, rfl, ?_⟩
          try simp only [Act.put, List.setIfInBounds_toArray, List.set_cons_zero, List.set_cons_succ]
          apply reg.chain_nil
          go_wp2
          go_roundw
          case rel => exact ⟨k + 1, _, by omega, by go_num, H9.out.1, H9.out.2.1, H9.out.2.2⟩
          case measure => simp [intOf]; omega
        · obtain rfl : k = m := by omega
          have hd2 : decide ((k : Int) < (k : Int)) = false := decide_eq_false (by omega)
          have hrl : ((List.range k).map fun j => at2 b (7 + 2 * j)).length = k := by simp
          obtain ⟨A1, c1, rfl⟩ := Kd.R_slice hv
          rw [hrl] at hv hx
          have HV := Lib.hid hv
          have HXX := Lib.hid hx
          have HBW := Lib.hid hbw
          have hgx := blk_lt hx
          obtain ⟨p0, p1, p2, p3, p4⟩ := hx.cells
          clear hv hx
          go_wp2_with fail
          obtain ⟨W9, hW9⟩ : ∃ W9, wr.alloc (.cells #[.int .i64 k0, .int .i64 (at2 b 1), .int .i64 (at2 b 3), .slice A1 k c1, .int .i64 (at2 b 5)] 32) = W9 := ⟨_, rfl⟩
          have hy9 : nodeIs W9 wr.heap.size k0 (at2 b 1) (at2 b 3) (.slice A1 k c1) (at2 b 5) := by rw [← hW9]; exact blk_new _ _
          have hx9 : nodeIs W9 w.heap.size k0 (at2 b 1) (at2 b 3) (.slice A1 k c1) (at2 b 5) := by rw [← hW9]; exact blk_alloc HXX.out _
          have hR9 : (Kd.int .i64).R 3 W9 w.heap.size (fun j => w.heap.size ≤ j) (.slice A1 k c1) ((List.range k).map fun j => at2 b (7 + 2 * j)) := by rw [← hW9]; exact Kd.R_alloc HV.out _
          have hB9 : Below w.heap.size w W9 := by rw [← hW9]; exact below_alloc HBW.out _
          rw [hW9]
          have hgy : w.heap.size < wr.heap.size := hgx
          have hA1lt : ∀ j, (Value.slice A1 k c1).ownBlock = some j → j < W9.heap.size := fun j hj => by rw [← hW9]; have := Kd.R_lt HV.out j hj; simp; omega
          have HA1 := Lib.hid hA1lt
          generalize hgy0 : wr.heap.size = gy at *
          clear hW9 hgy0 hA1lt p0 p1 p2 p3 p4
          refine (clone_any ((List.range k).map fun j => at2 b (7 + 2 * j)) A1 c1 W9 (by rw [hrl]; omega) _ (by rw [hrl]) hR9).mono ?_
          rintro e w10 ⟨v10, rfl, hR10, hb10⟩
          have HX10 := Lib.hid (show nodeIs w10 w.heap.size k0 (at2 b 1) (at2 b 3) (.slice A1 k c1) (at2 b 5) from blk_below hx9 hb10)
          have HY10 := Lib.hid (show nodeIs w10 gy k0 (at2 b 1) (at2 b 3) (.slice A1 k c1) (at2 b 5) from blk_below hy9 hb10)
          have HB10 := Lib.hid (below_step hB9 hb10)
          have HR10 := Lib.hid hR10
          have HV10 := Lib.hid (Kd.R_below hR9 hb10)
          have hz10 := hb10.size
          have HVB := Lib.hid (fun j (hj : v10.ownBlock = some j) => Kd.R_base hR10 j hj)
          have hB9s := hB9.size
          clear hR10 hb10 hx9 hy9 hR9 hB9
          go_wp2_with fail
          have hone : (w10.alloc (.cells #[.int .i64 1] 3)).cell? ⟨w10.heap.size, 0, none⟩ = some (.int .i64 1) := (blk_cell (blk_new _ _) 0).trans rfl
          refine (repeat_any w10.heap.size 0 _ (by omega) hone).mono ?_
          rintro e w11 ⟨v11, rfl, hR11, hb11⟩
          have hb11' := below_step (below_alloc (Below.refl w10.heap.size w10) (.cells #[.int .i64 1] 3)) hb11
          obtain ⟨A11, c11, rfl⟩ := Kd.R_slice hR11
          have hC11 := (int_read hR11).2.2
          have HX11 := Lib.hid (show nodeIs w11 w.heap.size k0 (at2 b 1) (at2 b 3) (.slice A1 k c1) (at2 b 5) from blk_below HX10.out hb11')
          have HY11 := Lib.hid (show nodeIs w11 gy k0 (at2 b 1) (at2 b 3) (.slice A1 k c1) (at2 b 5) from blk_below HY10.out hb11')
          have HB11 := Lib.hid (below_step HB10.out hb11')
          have HR11 := Lib.hid (Kd.R_below HR10.out hb11')
          have HV11 := Lib.hid (Kd.R_below HV10.out hb11')
          have hz11 := hb11'.size
          have hrp : (List.replicate 0 (1 : Int)).length = 0 := List.length_replicate
          rw [hrp] at hC11
          rw [hrp]
          have HC11 := Lib.hid hC11
          clear hR11 hb11 hb11' hone hC11
          have hap : ∀ (ops : Array Oper) (rest : List Oper) (a : Act) (Q : Exit → Act → World → Prop) (o : Oper), True := fun _ _ _ _ _ => trivial
          clear hap
          have HNX := Lib.hid (Kd.R_ne HR11.out HX11.out (by decide))
          have HNY := Lib.hid (Kd.R_ne HR11.out HY11.out (by decide))
          generalize hls : ((List.range k).map fun j => at2 b (7 + 2 * j)) = ls at *
          generalize hrs : List.replicate 0 (1 : Int) = rs at *
          have HLS := Lib.hid hls
          have HRS := Lib.hid hrs
          clear hls hrs
          go_wp2_with (at_builtin; refine Kd.R_append_rows (Kd.int .i64) (Rr := fun x cs => (Kd.int .i64).K w11 x cs) (w0 := w) w.heap.size rfl (.tmp 60) (.tmp 63) 30 3 (.int .i64 0) 8 rfl Tryd.underlying30 (by kernel_rfl) rfl (by decide) (by decide) v10 ls rs A11 0 c11 (fun j => w.heap.size ≤ j) (fun _ => False) rfl rfl
                          (Kd.R_mono (Kd.R_lower HR11.out (by omega)) (fun j hj => by omega)) HC11.out (fun x cs h => h) (fun j hj => hj.elim) (fun j hj => by omega) HB11.out (by omega) (by rw [hrl]; omega) ?_
                       intro v12 w12 hR12 hB12 hg12 hat12
                       have hx12 : nodeIs w12 w.heap.size k0 (at2 b 1) (at2 b 3) (.slice A1 k c1) (at2 b 5) := blk_grown HX11.out hg12 HNX.out
                       have hy12 : nodeIs w12 gy k0 (at2 b 1) (at2 b 3) (.slice A1 k c1) (at2 b 5) := blk_grown HY11.out hg12 HNY.out
                       have hV12 := Kd.R_mono (Kd.R_grown (Kd.R_tight rfl HV11.out) hg12 (fun j hj e => by have h1 := HA1.out j hj.symm; have h2 := HVB.out j e.symm; omega)) (fun j hj => HV11.out.1 j hj.symm)
                       have hk12 := (Kd.R_val hR12).2
                       have z12 := hy12.cells.2.2.2.1
                       have zf12 := blk_frozen hy12 3
                       have H12 := Lib.hid (And.intro hx12 (And.intro hy12 (And.intro hV12 (And.intro hR12 hB12))))
                       clear hx12 hy12 hV12 hB12 hg12 hat12
                       obtain ⟨A12, c12, rfl⟩ := Kd.R_slice hR12
                       clear hR12
                       generalize hfl : ls ++ rs = full at *
                       obtain ⟨W13, hW13⟩ : ∃ W13, w12.setCell ⟨gy, 3, none⟩ (.slice A12 full.length c12) = W13 := ⟨_, rfl⟩
                       have hy13 : nodeIs W13 gy k0 (at2 b 1) (at2 b 3) (.slice A12 full.length c12) (at2 b 5) := (by rw [← hW13]; exact blk_put H12.out.2.1 3 _ rfl)
                       obtain ⟨y0, y1, y2, y3, y4⟩ := hy13.cells
                       have HW13 := Lib.hid hW13
                       have HFL := Lib.hid hfl
                       clear hfl hy13)
          have HX13 := Lib.hid (show nodeIs W13 w.heap.size k0 (at2 b 1) (at2 b 3) (.slice A1 k c1) (at2 b 5) by rw [← HW13.out]; exact (Below.heap_setCell w12 ⟨gy, 3, none⟩ _ w.heap.size (by show w.heap.size ≠ gy; omega)).trans H12.out.1)
          have HV13 := Lib.hid (show (Kd.int .i64).R 3 W13 _ _ (.slice A1 k c1) ls by rw [← HW13.out]; exact Kd.R_set H12.out.2.2.1 H12.out.2.1 (by decide) 3 _)
          have HR13 := Lib.hid (show (Kd.int .i64).R 3 W13 w.heap.size (fun j => w.heap.size ≤ j) (.slice A12 full.length c12) full by rw [← HW13.out]; exact Kd.R_set H12.out.2.2.2.1 H12.out.2.1 (by decide) 3 _)
          have HB13 := Lib.hid (show Below w.heap.size w W13 by rw [← HW13.out]; exact below_set H12.out.2.2.2.2 (by omega))
          have hput := put_any ⟨k0, at2 b 1, at2 b 3, full, at2 b 5⟩ A12 c12 W13 (HS.out.below HB13.out) (int_read HR13.out).2.2 (int_read HR13.out).2.1
          have HFULL := Lib.hid (show fullNode b = ⟨k0, at2 b 1, at2 b 3, full, at2 b 5⟩ by unfold fullNode; rw [HRN.out, HLO.out]; simp only [Int.toNat_natCast]; rw [← HFL.out]; rw [show min k 6 = k by omega, show (max 0 ((k : Int) - 6)).toNat = 0 by omega, HLS.out, HRS.out])
          refine hput.mono ?_
          rintro e w14 ⟨v14, v15, rfl, hR14, hR15, hb14⟩
          obtain ⟨A14, c14, rfl⟩ := Kd.R_slice hR14
          have hcv1 := Kd.C_string (dst := 9) (c := c14) Tryd.underlying24 Tryd.underlying5 Tryd.underlying9 (int_read hR14).2.2
          have hcr : (Kd.int .u8).C w14 (some ad) 32 b := by have := Kd.C_below HR.out (below_step HB13.out hb14); rwa [HL.out] at this
          have hcv2 := Kd.C_string (dst := 9) (c := c) Tryd.underlying24 Tryd.underlying5 Tryd.underlying9 hcr
          have hx14 : nodeIs w14 w.heap.size k0 (at2 b 1) (at2 b 3) (.slice A1 k c1) (at2 b 5) := blk_below HX13.out hb14
          have HX14 := Lib.hid hx14
          have HV14 := Lib.hid (Kd.R_below HV13.out hb14)
          have HB14 := Lib.hid (below_step HB13.out hb14)
          have HNE := Lib.hid (Kd.R_ne (Kd.R_below HV13.out hb14) hx14 (by decide))
          have HTE := Lib.hid (show goodNode b = (mayB ⟨k0, at2 b 1, at2 b 3, full, at2 b 5⟩ && decide (nodeBytes ⟨k0, at2 b 1, at2 b 3, full, at2 b 5⟩ = b)) by rw [HGN.out, HFULL.out, decide_eq_true (by omega : (0 : Int) ≤ (k : Int)), Bool.true_and])
          have HR14 := Lib.hid hR14
          clear hR15 hb14 hcr hx14 y0 y1 y2 y3 y4 hput
          have bad : goodNode b = false → ∀ V5, nodeIs V5 w.heap.size 0 0 0 (.slice none 0 0) 0 → Below w.heap.size w V5 → TakePost b w (.returned (.tuple #[.agg #[.int .i64 0, .int .i64 0, .int .i64 0, .slice none 0 0, .int .i64 0], .int .i64 0, .int .i64 4])) V5 := fun hg V5 _ hB => by
            have hT : takeNode b = (Ino.zero, 0, 4) := by rw [HTN.out, hg]; rfl
            unfold TakePost
            rw [hT]
            exact ⟨_, rfl, Kd.R_nil _ _ _ _ _, hB⟩
          have BAD := Lib.hid bad
          clear bad
          cases hmay : mayB ⟨k0, at2 b 1, at2 b 3, full, at2 b 5⟩ with
          | false =>
            have hg : goodNode b = false := by rw [HTE.out, hmay]; rfl
            have hp := putNode_no _ hmay
            rw [hp] at hcv1 ⊢
            clear hp hmay
            have HG := Lib.hid hg
            clear hg
            obtain ⟨V1, V2, V3, V4, V5, d1, d2, d3, d4, d5, ⟨i0, i1, i2, i3, i4, i5, i6, i7, i8, i9⟩, hv5, hsv, hgv⟩ := five_cells HX14.out (.int .i64 0) (.int .i64 0) (.int .i64 0) (.slice none 0 0) (.int .i64 0)
            have HV := Lib.hid (And.intro hv5 (HB14.out.grown hgv HB14.out.size (fun k hk => by have := Option.some.inj hk; omega)))
            clear hv5 hsv hgv hcv1 hcv2 hR14
            go_wp2
            obtain ⟨q0, q1, q2, q3, q4⟩ := (show nodeIs V5 w.heap.size 0 0 0 (.slice none 0 0) 0 from HV.out.1).cells
            refine bodyPost_ret (v := .tuple #[.agg #[.int .i64 0, .int .i64 0, .int .i64 0, .slice none 0 0, .int .i64 0], .int .i64 0, .int .i64 4]) (by simp [results, Tryd.f15, go_sem, q0, q1, q2, q3, q4]) rfl ?_
            exact BAD.out HG.out V5 HV.out.1 HV.out.2
          | true =>
            have hp : putNode ⟨k0, at2 b 1, at2 b 3, full, at2 b 5⟩ = (nodeBytes ⟨k0, at2 b 1, at2 b 3, full, at2 b 5⟩, moreBytes ⟨k0, at2 b 1, at2 b 3, full, at2 b 5⟩, 0) := by unfold putNode; rw [hmay]; rfl
            rw [hp] at hcv1 ⊢
            rw [hmay, Bool.true_and] at HTE
            have HNB := Lib.hid (Bytes.node ⟨k0, at2 b 1, at2 b 3, full, at2 b 5⟩)
            clear hp hmay hR14
            simp only at hcv1 ⊢
            generalize nodeBytes ⟨k0, at2 b 1, at2 b 3, full, at2 b 5⟩ = nb at *
            have hlnb : nb.length = nb.length := rfl
            by_cases he : nb = b
            · have hcmp : ((strOfNums nb).toList == (strOfNums b).toList) = true := by rw [he]; simp
              have HT := Lib.hid (show takeNode b = (readNode b, leftOf b, 0) by rw [HTN.out, HTE.out, decide_eq_true he]; rfl)
              clear he hlnb
              obtain ⟨V1, V2, V3, V4, V5, d1, d2, d3, d4, d5, ⟨i0, i1, i2, i3, i4, i5, i6, i7, i8, i9⟩, hv5, hsv, hgv⟩ := five_cells HX14.out (.int .i64 k0) (.int .i64 (at2 b 1)) (.int .i64 (at2 b 3)) (.slice A1 k c1) (.int .i64 (at2 b 5))
              have hR5 := Kd.R_mono (Kd.R_grown (Kd.R_tight rfl HV14.out) hgv (fun j hj e => HNE.out (e.symm.trans hj))) (fun j hj => HV14.out.1 j hj.symm)
              have HV := Lib.hid (And.intro hv5 (And.intro hR5 (HB14.out.grown hgv HB14.out.size (fun k hk => by have := Option.some.inj hk; omega))))
              obtain ⟨r0, r1, r2, r3, r4⟩ := HX14.out.cells
              clear hv5 hsv hgv hR5
              go_wp2
              obtain ⟨hx5, hR5, hB5⟩ := HV.out
              obtain ⟨q0, q1, q2, q3, q4⟩ := (show nodeIs V5 w.heap.size k0 (at2 b 1) (at2 b 3) (.slice A1 k c1) (at2 b 5) from hx5).cells
              refine bodyPost_ret (v := .tuple #[.agg #[.int .i64 k0, .int .i64 (at2 b 1), .int .i64 (at2 b 3), .slice A1 k c1, .int .i64 (at2 b 5)], .int .i64 0, .int .i64 0]) (by simp [results, Tryd.f15, go_sem, q0, q1, q2, q3, q4]) rfl ?_
              unfold TakePost
              rw [HT.out, HLO.out, HRN.out, show max 0 ((k : Int) - 6) = 0 by omega]
              simp only [Int.toNat_natCast]
              rw [show min k 6 = k by omega, HLS.out]
              exact ⟨_, rfl, hR5, hB5⟩
            · have hcmp : ((strOfNums nb).toList == (strOfNums b).toList) = false := by
                rw [beq_eq_false_iff_ne]
                exact fun e => he ((str_inj HNB.out HBY.out).1 e)
              have hg : goodNode b = false := by rw [HTE.out, decide_eq_false he]
              have HG := Lib.hid hg
              clear hg he hlnb
              obtain ⟨V1, V2, V3, V4, V5, d1, d2, d3, d4, d5, ⟨i0, i1, i2, i3, i4, i5, i6, i7, i8, i9⟩, hv5, hsv, hgv⟩ := five_cells HX14.out (.int .i64 0) (.int .i64 0) (.int .i64 0) (.slice none 0 0) (.int .i64 0)
              have HV := Lib.hid (And.intro hv5 (HB14.out.grown hgv HB14.out.size (fun k hk => by have := Option.some.inj hk; omega)))
              clear hv5 hsv hgv
              go_wp2
              obtain ⟨q0, q1, q2, q3, q4⟩ := (show nodeIs V5 w.heap.size 0 0 0 (.slice none 0 0) 0 from HV.out.1).cells
              refine bodyPost_ret (v := .tuple #[.agg #[.int .i64 0, .int .i64 0, .int .i64 0, .slice none 0 0, .int .i64 0], .int .i64 0, .int .i64 4]) (by simp [results, Tryd.f15, go_sem, q0, q1, q2, q3, q4]) rfl ?_
              exact BAD.out HG.out V5 HV.out.1 HV.out.2
    · have h6i : (6 : Int) < (m : Int) := by omega
      have HAT := Lib.hid (fun i => at2_range HBY.out i)
      go_wp2_with fail
      go_loopw [39, 6] (fun i j wr => ∃ (k : Nat) (v : Value), k ≤ 6 ∧ i = .int .i64 k ∧ nodeIs wr w.heap.size k0 (at2 b 1) (at2 b 3) v (at2 b 5) ∧ (Kd.int .i64).R 3 wr w.heap.size (fun j => w.heap.size ≤ j) v ((List.range k).map fun j => at2 b (7 + 2 * j)) ∧ Below w.heap.size w wr) (fun i _ _ => 6 - (intOf i).toNat)
      case atStart => exact ⟨0, _, Nat.zero_le _, rfl, HX5.out, Kd.R_nil _ _ _ _ _, HB5.out⟩
      case round =>
        obtain ⟨k, v, hk, rfl, hx, hv, hbw⟩ := hrel
        by_cases hlt : k < 6
        · have hd2 : decide ((k : Int) < 6) = true := decide_eq_true (by omega)
          have hrl : ((List.range k).map fun j => at2 b (7 + 2 * j)).length = k := by simp
          obtain ⟨A1, c1, rfl⟩ := Kd.R_slice hv
          rw [hrl] at hv hx
          have HV := Lib.hid hv
          have HXX := Lib.hid hx
          have HBW := Lib.hid hbw
          have hk7 : ¬ (c = 7 + 2 * k) := by omega
          have hlow : ∀ j, (Value.slice A1 k c1).ownBlock = some j → j < wr.heap.size := fun j hj => Kd.R_lt hv j hj
          have hne := Kd.R_ne hv hx (by decide)
          have hgx := blk_lt hx
          have hat2 := HAT.out (7 + 2 * k)
          have HRG := Lib.hid (show ((List.range (k + 1)).map fun j => at2 b (7 + 2 * j)) = ((List.range k).map fun j => at2 b (7 + 2 * j)) ++ [at2 b (7 + 2 * k)] by rw [List.range_succ, List.map_append]; rfl)
          obtain ⟨p0, p1, p2, p3, p4⟩ := hx.cells
          clear hv hx
          go_wp2_with fail
          refine reg.region_chain_wp [false, false, false, false, false, false, false, true, true, true, true, true] (T := fun W' => W'.cell? ⟨w.heap.size, 3, none⟩ = some (.slice A1 k c1)) (by kernel_rfl) rfl (by kernel_rfl) ?_
          dsimp only [reg.splitQ, reg.splitM]
          iterate 7
            apply reg.read_cons
            case h =>
              intro W' hT
              go_wp2
              exact ⟨rfl, _, rfl, rfl, rfl⟩
            try simp only [Act.put, List.setIfInBounds_toArray, List.set_cons_zero, List.set_cons_succ]
          apply reg.read_nil
          refine reg.chain_cons p3 ?_
          go_wp2_with fail
          refine (HTA.out (7 + 2 * k) _ _ wr.drew (below_drew HBW.out) (by omega) (by omega) rfl (by omega)).mono ?_
          rintro e w7 ⟨rfl, hb7⟩
          have hB7 := below_step (below_drew HBW.out) hb7
          have hx7 : nodeIs w7 w.heap.size k0 (at2 b 1) (at2 b 3) (.slice A1 k c1) (at2 b 5) := blk_below (w := wr.drew) HXX.out hb7
          have HV7 := Lib.hid (Kd.R_below (w := wr.drew) HV.out hb7)
          have hz7 := hb7.size
          go_wp2_with fail
          refine ⟨rfl, _, rfl, ?_⟩
          try simp only [Act.put, List.setIfInBounds_toArray, List.set_cons_zero, List.set_cons_succ]
          refine reg.chain_cons hx7.cells.2.2.2.1 ?_
          go_wp2
          refine ⟨rfl, _, rfl, ?_⟩
          try simp only [Act.put, List.setIfInBounds_toArray, List.set_cons_zero, List.set_cons_succ]
          refine reg.chain_cons (blk_alloc hx7 _ |> fun h => (show nodeIs _ w.heap.size k0 (at2 b 1) (at2 b 3) (.slice A1 k c1) (at2 b 5) from h).cells.2.2.2.1) ?_
          refine Kd.R_append (Kd.int .i64) w.heap.size rfl (.tmp 43) (.tmp 50) 30 3 (.int .i64 0) 8 rfl Tryd.underlying30 (by kernel_rfl) rfl (by decide) (by decide) (.slice A1 k c1) ((List.range k).map fun j => at2 b (7 + 2 * j)) (at2 b (7 + 2 * k)) [.int .i64 (at2 b (7 + 2 * k))]
            (fun j => w.heap.size ≤ j) (fun _ => False) rfl rfl rfl (fun j hj => hj.elim) (fun j hj => by have := hB7.size; omega) HV7.out (w0 := w) hB7 hB7.size (by simp; omega) ?_
          intro v8 w8 hR8 hB8 hg8 hat8
          rw [← HRG.out] at hR8
          have hx8 : nodeIs w8 w.heap.size k0 (at2 b 1) (at2 b 3) (.slice A1 k c1) (at2 b 5) := blk_grown hx7 hg8 hne
          have hk8 := (Kd.R_val hR8).2
          have HR8 := Lib.hid hR8
          refine ⟨rfl, _, rfl, ?_⟩
          try simp only [Act.put, List.setIfInBounds_toArray, List.set_cons_zero, List.set_cons_succ]
          refine reg.chain_cons hx8.cells.2.2.2.1 ?_
          go_wp2
          refine ⟨rfl, _, rfl, ?_⟩
          try simp only [Act.put, List.setIfInBounds_toArray, List.set_cons_zero, List.set_cons_succ]
          refine reg.chain_cons hx8.cells.2.2.2.1 ?_
          have z3 := hx8.cells.2.2.2.1
          have zf := blk_frozen hx8 3
          have hx9 : nodeIs (w8.setCell ⟨w.heap.size, 3, none⟩ v8) w.heap.size k0 (at2 b 1) (at2 b 3) v8 (at2 b 5) := blk_put hx8 3 v8 rfl
          have hR9 := Kd.R_set hR8 hx8 (by decide) 3 v8
          have hB9 := below_set (j := 3) (v := v8) hB8 (Nat.le_refl _)
          obtain ⟨A8, c8, rfl⟩ := Kd.R_slice hR8
          rw [show ((List.range (k + 1)).map fun j => at2 b (7 + 2 * j)).length = k + 1 by simp] at *
          have H9 := Lib.hid (And.intro hx9 (And.intro hR9 hB9))
          clear hR8 hx8 hx9 hR9 hB9 hB8 hg8 hat8 hk8
          go_wp2
          refine ⟨rfl, undef, rfl, ?_⟩
          try simp only [Act.put, List.setIfInBounds_toArray, List.set_cons_zero, List.set_cons_succ]
          apply reg.chain_nil
          go_wp2
          go_roundw
          case rel => exact ⟨k + 1, _, by omega, by go_num, H9.out.1, H9.out.2.1, H9.out.2.2⟩
          case measure => simp [intOf]; omega
        · obtain rfl : k = 6 := by omega
          rw [show ((6 : Nat) : Int) = 6 from rfl]
          have hrl : ((List.range 6).map fun j => at2 b (7 + 2 * j)).length = 6 := by simp
          obtain ⟨A1, c1, rfl⟩ := Kd.R_slice hv
          rw [hrl] at hv hx
          have HV := Lib.hid hv
          have HXX := Lib.hid hx
          have HBW := Lib.hid hbw
          have hgx := blk_lt hx
          obtain ⟨p0, p1, p2, p3, p4⟩ := hx.cells
          clear hv hx
          go_wp2_with fail
          obtain ⟨W9, hW9⟩ : ∃ W9, wr.alloc (.cells #[.int .i64 k0, .int .i64 (at2 b 1), .int .i64 (at2 b 3), .slice A1 6 c1, .int .i64 (at2 b 5)] 32) = W9 := ⟨_, rfl⟩
          have hy9 : nodeIs W9 wr.heap.size k0 (at2 b 1) (at2 b 3) (.slice A1 6 c1) (at2 b 5) := by rw [← hW9]; exact blk_new _ _
          have hx9 : nodeIs W9 w.heap.size k0 (at2 b 1) (at2 b 3) (.slice A1 6 c1) (at2 b 5) := by rw [← hW9]; exact blk_alloc HXX.out _
          have hR9 : (Kd.int .i64).R 3 W9 w.heap.size (fun j => w.heap.size ≤ j) (.slice A1 6 c1) ((List.range 6).map fun j => at2 b (7 + 2 * j)) := by rw [← hW9]; exact Kd.R_alloc HV.out _
          have hB9 : Below w.heap.size w W9 := by rw [← hW9]; exact below_alloc HBW.out _
          rw [hW9]
          have hgy : w.heap.size < wr.heap.size := hgx
          have hA1lt : ∀ j, (Value.slice A1 6 c1).ownBlock = some j → j < W9.heap.size := fun j hj => by rw [← hW9]; have := Kd.R_lt HV.out j hj; simp; omega
          have HA1 := Lib.hid hA1lt
          generalize hgy0 : wr.heap.size = gy at *
          clear hW9 hgy0 hA1lt p0 p1 p2 p3 p4
          refine (clone_any ((List.range 6).map fun j => at2 b (7 + 2 * j)) A1 c1 W9 (by rw [hrl]; omega) _ (by rw [hrl]) hR9).mono ?_
          rintro e w10 ⟨v10, rfl, hR10, hb10⟩
          have HX10 := Lib.hid (show nodeIs w10 w.heap.size k0 (at2 b 1) (at2 b 3) (.slice A1 6 c1) (at2 b 5) from blk_below hx9 hb10)
          have HY10 := Lib.hid (show nodeIs w10 gy k0 (at2 b 1) (at2 b 3) (.slice A1 6 c1) (at2 b 5) from blk_below hy9 hb10)
          have HB10 := Lib.hid (below_step hB9 hb10)
          have HR10 := Lib.hid hR10
          have HV10 := Lib.hid (Kd.R_below hR9 hb10)
          have hz10 := hb10.size
          have HVB := Lib.hid (fun j (hj : v10.ownBlock = some j) => Kd.R_base hR10 j hj)
          have hB9s := hB9.size
          clear hR10 hb10 hx9 hy9 hR9 hB9
          go_wp2_with fail
          have hone : (w10.alloc (.cells #[.int .i64 1] 3)).cell? ⟨w10.heap.size, 0, none⟩ = some (.int .i64 1) := (blk_cell (blk_new _ _) 0).trans rfl
          refine (repeat_int w10.heap.size (m - 6) _ _ (by omega) (by omega) hone).mono ?_
          rintro e w11 ⟨v11, rfl, hR11, hb11⟩
          have hb11' := below_step (below_alloc (Below.refl w10.heap.size w10) (.cells #[.int .i64 1] 3)) hb11
          obtain ⟨A11, c11, rfl⟩ := Kd.R_slice hR11
          have hC11 := (int_read hR11).2.2
          have HX11 := Lib.hid (show nodeIs w11 w.heap.size k0 (at2 b 1) (at2 b 3) (.slice A1 6 c1) (at2 b 5) from blk_below HX10.out hb11')
          have HY11 := Lib.hid (show nodeIs w11 gy k0 (at2 b 1) (at2 b 3) (.slice A1 6 c1) (at2 b 5) from blk_below HY10.out hb11')
          have HB11 := Lib.hid (below_step HB10.out hb11')
          have HR11 := Lib.hid (Kd.R_below HR10.out hb11')
          have HV11 := Lib.hid (Kd.R_below HV10.out hb11')
          have hz11 := hb11'.size
          have hrp : (List.replicate (m - 6) (1 : Int)).length = (m - 6) := List.length_replicate
          rw [hrp] at hC11
          rw [hrp]
          have HC11 := Lib.hid hC11
          clear hR11 hb11 hb11' hone hC11
          have hap : ∀ (ops : Array Oper) (rest : List Oper) (a : Act) (Q : Exit → Act → World → Prop) (o : Oper), True := fun _ _ _ _ _ => trivial
          clear hap
          have HNX := Lib.hid (Kd.R_ne HR11.out HX11.out (by decide))
          have HNY := Lib.hid (Kd.R_ne HR11.out HY11.out (by decide))
          generalize hls : ((List.range 6).map fun j => at2 b (7 + 2 * j)) = ls at *
          generalize hrs : List.replicate (m - 6) (1 : Int) = rs at *
          have HLS := Lib.hid hls
          have HRS := Lib.hid hrs
          clear hls hrs
          go_wp2_with (at_builtin; refine Kd.R_append_rows (Kd.int .i64) (Rr := fun x cs => (Kd.int .i64).K w11 x cs) (w0 := w) w.heap.size rfl (.tmp 60) (.tmp 63) 30 3 (.int .i64 0) 8 rfl Tryd.underlying30 (by kernel_rfl) rfl (by decide) (by decide) v10 ls rs A11 (m - 6) c11 (fun j => w.heap.size ≤ j) (fun _ => False) rfl rfl
                          (Kd.R_mono (Kd.R_lower HR11.out (by omega)) (fun j hj => by omega)) HC11.out (fun x cs h => h) (fun j hj => hj.elim) (fun j hj => by omega) HB11.out (by omega) (by rw [hrl]; omega) ?_
                       intro v12 w12 hR12 hB12 hg12 hat12
                       have hx12 : nodeIs w12 w.heap.size k0 (at2 b 1) (at2 b 3) (.slice A1 6 c1) (at2 b 5) := blk_grown HX11.out hg12 HNX.out
                       have hy12 : nodeIs w12 gy k0 (at2 b 1) (at2 b 3) (.slice A1 6 c1) (at2 b 5) := blk_grown HY11.out hg12 HNY.out
                       have hV12 := Kd.R_mono (Kd.R_grown (Kd.R_tight rfl HV11.out) hg12 (fun j hj e => by have h1 := HA1.out j hj.symm; have h2 := HVB.out j e.symm; omega)) (fun j hj => HV11.out.1 j hj.symm)
                       have hk12 := (Kd.R_val hR12).2
                       have z12 := hy12.cells.2.2.2.1
                       have zf12 := blk_frozen hy12 3
                       have H12 := Lib.hid (And.intro hx12 (And.intro hy12 (And.intro hV12 (And.intro hR12 hB12))))
                       clear hx12 hy12 hV12 hB12 hg12 hat12
                       obtain ⟨A12, c12, rfl⟩ := Kd.R_slice hR12
                       clear hR12
                       generalize hfl : ls ++ rs = full at *
                       obtain ⟨W13, hW13⟩ : ∃ W13, w12.setCell ⟨gy, 3, none⟩ (.slice A12 full.length c12) = W13 := ⟨_, rfl⟩
                       have hy13 : nodeIs W13 gy k0 (at2 b 1) (at2 b 3) (.slice A12 full.length c12) (at2 b 5) := (by rw [← hW13]; exact blk_put H12.out.2.1 3 _ rfl)
                       obtain ⟨y0, y1, y2, y3, y4⟩ := hy13.cells
                       have HW13 := Lib.hid hW13
                       have HFL := Lib.hid hfl
                       clear hfl hy13)
          have HX13 := Lib.hid (show nodeIs W13 w.heap.size k0 (at2 b 1) (at2 b 3) (.slice A1 6 c1) (at2 b 5) by rw [← HW13.out]; exact (Below.heap_setCell w12 ⟨gy, 3, none⟩ _ w.heap.size (by show w.heap.size ≠ gy; omega)).trans H12.out.1)
          have HV13 := Lib.hid (show (Kd.int .i64).R 3 W13 _ _ (.slice A1 6 c1) ls by rw [← HW13.out]; exact Kd.R_set H12.out.2.2.1 H12.out.2.1 (by decide) 3 _)
          have HR13 := Lib.hid (show (Kd.int .i64).R 3 W13 w.heap.size (fun j => w.heap.size ≤ j) (.slice A12 full.length c12) full by rw [← HW13.out]; exact Kd.R_set H12.out.2.2.2.1 H12.out.2.1 (by decide) 3 _)
          have HB13 := Lib.hid (show Below w.heap.size w W13 by rw [← HW13.out]; exact below_set H12.out.2.2.2.2 (by omega))
          have hput := put_any ⟨k0, at2 b 1, at2 b 3, full, at2 b 5⟩ A12 c12 W13 (HS.out.below HB13.out) (int_read HR13.out).2.2 (int_read HR13.out).2.1
          have HFULL := Lib.hid (show fullNode b = ⟨k0, at2 b 1, at2 b 3, full, at2 b 5⟩ by unfold fullNode; rw [HRN.out, HLO.out]; simp only [Int.toNat_natCast]; rw [← HFL.out]; rw [show min m 6 = 6 by omega, show (max 0 ((m : Int) - 6)).toNat = (m - 6) by omega, HLS.out, HRS.out])
          refine hput.mono ?_
          rintro e w14 ⟨v14, v15, rfl, hR14, hR15, hb14⟩
          obtain ⟨A14, c14, rfl⟩ := Kd.R_slice hR14
          have hcv1 := Kd.C_string (dst := 9) (c := c14) Tryd.underlying24 Tryd.underlying5 Tryd.underlying9 (int_read hR14).2.2
          have hcr : (Kd.int .u8).C w14 (some ad) 32 b := by have := Kd.C_below HR.out (below_step HB13.out hb14); rwa [HL.out] at this
          have hcv2 := Kd.C_string (dst := 9) (c := c) Tryd.underlying24 Tryd.underlying5 Tryd.underlying9 hcr
          have hx14 : nodeIs w14 w.heap.size k0 (at2 b 1) (at2 b 3) (.slice A1 6 c1) (at2 b 5) := blk_below HX13.out hb14
          have HX14 := Lib.hid hx14
          have HV14 := Lib.hid (Kd.R_below HV13.out hb14)
          have HB14 := Lib.hid (below_step HB13.out hb14)
          have HNE := Lib.hid (Kd.R_ne (Kd.R_below HV13.out hb14) hx14 (by decide))
          have HTE := Lib.hid (show goodNode b = (mayB ⟨k0, at2 b 1, at2 b 3, full, at2 b 5⟩ && decide (nodeBytes ⟨k0, at2 b 1, at2 b 3, full, at2 b 5⟩ = b)) by rw [HGN.out, HFULL.out, decide_eq_true (by omega : (0 : Int) ≤ (m : Int)), Bool.true_and])
          have HR14 := Lib.hid hR14
          clear hR15 hb14 hcr hx14 y0 y1 y2 y3 y4 hput
          have bad : goodNode b = false → ∀ V5, nodeIs V5 w.heap.size 0 0 0 (.slice none 0 0) 0 → Below w.heap.size w V5 → TakePost b w (.returned (.tuple #[.agg #[.int .i64 0, .int .i64 0, .int .i64 0, .slice none 0 0, .int .i64 0], .int .i64 0, .int .i64 4])) V5 := fun hg V5 _ hB => by
            have hT : takeNode b = (Ino.zero, 0, 4) := by rw [HTN.out, hg]; rfl
            unfold TakePost
            rw [hT]
            exact ⟨_, rfl, Kd.R_nil _ _ _ _ _, hB⟩
          have BAD := Lib.hid bad
          clear bad
          cases hmay : mayB ⟨k0, at2 b 1, at2 b 3, full, at2 b 5⟩ with
          | false =>
            have hg : goodNode b = false := by rw [HTE.out, hmay]; rfl
            have hp := putNode_no _ hmay
            rw [hp] at hcv1 ⊢
            clear hp hmay
            have HG := Lib.hid hg
            clear hg
            obtain ⟨V1, V2, V3, V4, V5, d1, d2, d3, d4, d5, ⟨i0, i1, i2, i3, i4, i5, i6, i7, i8, i9⟩, hv5, hsv, hgv⟩ := five_cells HX14.out (.int .i64 0) (.int .i64 0) (.int .i64 0) (.slice none 0 0) (.int .i64 0)
            have HV := Lib.hid (And.intro hv5 (HB14.out.grown hgv HB14.out.size (fun kk hkk => by have := Option.some.inj hkk; omega)))
            clear hv5 hsv hgv hcv1 hcv2 hR14
            go_wp2
            obtain ⟨q0, q1, q2, q3, q4⟩ := (show nodeIs V5 w.heap.size 0 0 0 (.slice none 0 0) 0 from HV.out.1).cells
            refine bodyPost_ret (v := .tuple #[.agg #[.int .i64 0, .int .i64 0, .int .i64 0, .slice none 0 0, .int .i64 0], .int .i64 0, .int .i64 4]) (by simp [results, Tryd.f15, go_sem, q0, q1, q2, q3, q4]) rfl ?_
            exact BAD.out HG.out V5 HV.out.1 HV.out.2
          | true =>
            have hp : putNode ⟨k0, at2 b 1, at2 b 3, full, at2 b 5⟩ = (nodeBytes ⟨k0, at2 b 1, at2 b 3, full, at2 b 5⟩, moreBytes ⟨k0, at2 b 1, at2 b 3, full, at2 b 5⟩, 0) := by unfold putNode; rw [hmay]; rfl
            rw [hp] at hcv1 ⊢
            rw [hmay, Bool.true_and] at HTE
            have HNB := Lib.hid (Bytes.node ⟨k0, at2 b 1, at2 b 3, full, at2 b 5⟩)
            clear hp hmay hR14
            simp only at hcv1 ⊢
            generalize nodeBytes ⟨k0, at2 b 1, at2 b 3, full, at2 b 5⟩ = nb at *
            have hlnb : nb.length = nb.length := rfl
            by_cases he : nb = b
            · have hcmp : ((strOfNums nb).toList == (strOfNums b).toList) = true := by rw [he]; simp
              have HT := Lib.hid (show takeNode b = (readNode b, leftOf b, 0) by rw [HTN.out, HTE.out, decide_eq_true he]; rfl)
              clear he hlnb
              obtain ⟨V1, V2, V3, V4, V5, d1, d2, d3, d4, d5, ⟨i0, i1, i2, i3, i4, i5, i6, i7, i8, i9⟩, hv5, hsv, hgv⟩ := five_cells HX14.out (.int .i64 k0) (.int .i64 (at2 b 1)) (.int .i64 (at2 b 3)) (.slice A1 6 c1) (.int .i64 (at2 b 5))
              have hR5 := Kd.R_mono (Kd.R_grown (Kd.R_tight rfl HV14.out) hgv (fun j hj e => HNE.out (e.symm.trans hj))) (fun j hj => HV14.out.1 j hj.symm)
              have HV := Lib.hid (And.intro hv5 (And.intro hR5 (HB14.out.grown hgv HB14.out.size (fun kk hkk => by have := Option.some.inj hkk; omega))))
              obtain ⟨r0, r1, r2, r3, r4⟩ := HX14.out.cells
              clear hv5 hsv hgv hR5
              go_wp2
              obtain ⟨hx5, hR5, hB5⟩ := HV.out
              obtain ⟨q0, q1, q2, q3, q4⟩ := (show nodeIs V5 w.heap.size k0 (at2 b 1) (at2 b 3) (.slice A1 6 c1) (at2 b 5) from hx5).cells
              refine bodyPost_ret (v := .tuple #[.agg #[.int .i64 k0, .int .i64 (at2 b 1), .int .i64 (at2 b 3), .slice A1 6 c1, .int .i64 (at2 b 5)], .int .i64 ((m : Int) - 6), .int .i64 0]) (by simp [results, Tryd.f15, go_sem, q0, q1, q2, q3, q4]) rfl ?_
              unfold TakePost
              rw [HT.out, HLO.out, HRN.out, show max 0 ((m : Int) - 6) = ((m : Int) - 6) by omega]
              simp only [Int.toNat_natCast]
              rw [show min m 6 = 6 by omega, HLS.out]
              exact ⟨_, rfl, hR5, hB5⟩
            · have hcmp : ((strOfNums nb).toList == (strOfNums b).toList) = false := by
                rw [beq_eq_false_iff_ne]
                exact fun e => he ((str_inj HNB.out HBY.out).1 e)
              have hg : goodNode b = false := by rw [HTE.out, decide_eq_false he]
              have HG := Lib.hid hg
              clear hg he hlnb
              obtain ⟨V1, V2, V3, V4, V5, d1, d2, d3, d4, d5, ⟨i0, i1, i2, i3, i4, i5, i6, i7, i8, i9⟩, hv5, hsv, hgv⟩ := five_cells HX14.out (.int .i64 0) (.int .i64 0) (.int .i64 0) (.slice none 0 0) (.int .i64 0)
              have HV := Lib.hid (And.intro hv5 (HB14.out.grown hgv HB14.out.size (fun kk hkk => by have := Option.some.inj hkk; omega)))
              clear hv5 hsv hgv
              go_wp2
              obtain ⟨q0, q1, q2, q3, q4⟩ := (show nodeIs V5 w.heap.size 0 0 0 (.slice none 0 0) 0 from HV.out.1).cells
              refine bodyPost_ret (v := .tuple #[.agg #[.int .i64 0, .int .i64 0, .int .i64 0, .slice none 0 0, .int .i64 0], .int .i64 0, .int .i64 4]) (by simp [results, Tryd.f15, go_sem, q0, q1, q2, q3, q4]) rfl ?_
              exact BAD.out HG.out V5 HV.out.1 HV.out.2
end Go.Proofs.YtmjmcmohicjfkaaDoor.lay
