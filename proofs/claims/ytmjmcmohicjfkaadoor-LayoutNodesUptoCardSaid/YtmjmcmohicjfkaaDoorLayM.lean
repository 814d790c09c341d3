import Derived.Test.YtmjmcmohicjfkaaDoorLayL
/-
  Layout: the examples.
-/
namespace Go.Proofs.YtmjmcmohicjfkaaDoor.lay
open Go.RowKit Go.Shelf Go.Proofs.YtmjmcmohicjfkaaDoorW.PrintWords Go.Proofs.YtmjmcmohicjfkaaDoorW.PrintMore Go.Proofs.YtmjmcmohicjfkaaDoor.PLayoutTakes Go.Proofs.YtmjmcmohicjfkaaDoor.tab
attribute [local go_sem] max2_int min2_int max_two min_two

set_option maxRecDepth 100000 in
set_option maxHeartbeats 2000000 in
theorem of_512 (w : World) : Calls Tryd.prog 39 #[.int .i64 512] w fun e w' => e = .returned (.tuple #[.agg #[.int .i64 512, .int .i64 0, .int .i64 1, .int .i64 2, .int .i64 201, .int .i64 202, .int .i64 234, .int .i64 64], .int .i64 0]) ∧ Below w.heap.size w w' := by
  go_enter Tryd.func39, Tryd.ntmps39
  go_wp2
  refine bodyPost_ret (v := .tuple #[.agg #[.int .i64 512, .int .i64 0, .int .i64 1, .int .i64 2, .int .i64 201, .int .i64 202, .int .i64 234, .int .i64 64], .int .i64 0]) (by simp [results, Tryd.f39, go_sem]) rfl ⟨rfl, ?_⟩
  exact below_alloc (below_alloc (Below.refl _ _) _) _
theorem u8_at {W : World} {b : Nat} {ok : Nat → Prop} {g n c : Nat} {l : List Int} (h : (Kd.int .u8).R 5 W b ok (.slice (some ⟨g, 0, none⟩) n c) l) (i : Nat) (hi : i < l.length) : W.cell? ⟨g, i, none⟩ = some (.int .u8 l[i]) := by
  have hC := (int_read h).2.2
  have hn := (int_read h).1
  obtain ⟨ad, e, hc⟩ := Kd.at_int (k := .u8) hC (i : Int) (by omega) (by omega)
  obtain rfl := Option.some.inj e
  rw [Int.toNat_natCast, kb.add_plain', Nat.zero_add] at hc
  rw [hc, rd_at]
  simp [List.getD_eq_getElem?_getD, List.getElem?_eq_getElem hi]
theorem shown_path1 : pathP ⟨#[47, 97, 47, 98]⟩ = ([⟨#[97]⟩, ⟨#[98]⟩], 0) := by decide +kernel
theorem shown_path2 : pathP ⟨#[47, 46, 46]⟩ = ([], 40) := by decide +kernel
theorem shown_put : putNode ⟨1, 420, 3, [300], 0⟩ = ([1, 1, 164, 0, 3, 0, 0, 1, 44, 0, 0, 0, 0, 0, 0, 0, 0, 0, 0, 0, 0, 0, 0, 0, 0, 0, 0, 0, 0, 0, 0, 0], [], 0) := by decide +kernel
theorem shown_words1 : (restOf ⟨#[47, 97, 47, 98]⟩).size < 4294967281 ∧ (∀ y ∈ pathWords ⟨#[47, 97, 47, 98]⟩, y.size ≤ 9223372036854775807) ∧ (pathWords ⟨#[47, 97, 47, 98]⟩).length ≤ 9223372036854775807 := by decide +kernel
theorem shown_words2 : (restOf ⟨#[47, 46, 46]⟩).size < 4294967281 ∧ (∀ y ∈ pathWords ⟨#[47, 46, 46]⟩, y.size ≤ 9223372036854775807) ∧ (pathWords ⟨#[47, 46, 46]⟩).length ≤ 9223372036854775807 := by decide +kernel
set_option maxRecDepth 100000 in
set_option maxHeartbeats 4000000 in
theorem shown3_any (w : World) (m : Int) (hS : Shapes w) (hm : w.cell? ⟨1, 0, none⟩ = some (.int .i64 m)) : Calls Tryd.prog 11 #[] w fun e w' => e = .returned (.bool true) ∧ Below w.heap.size w w' := by
  have HS := Lib.hid hS
  have HM := Lib.hid hm
  clear hS hm
  go_enter Tryd.func11, Tryd.ntmps11
  go_wp2_with fail
  refine (of_512 w).mono ?_
  rintro e w1 ⟨rfl, hb1⟩
  go_wp2_with fail
  obtain ⟨W1, hW1⟩ : ∃ W1, w1.alloc (.cells #[.int .i64 512, .int .i64 0, .int .i64 1, .int .i64 2, .int .i64 201, .int .i64 202, .int .i64 234, .int .i64 64] 76) = W1 := ⟨_, rfl⟩
  have hblk : W1.heap[w1.heap.size]? = some (.cells #[.int .i64 512, .int .i64 0, .int .i64 1, .int .i64 2, .int .i64 201, .int .i64 202, .int .i64 234, .int .i64 64] 76 (0, 0)) := by rw [← hW1]; exact blk_new _ _
  have hB1 : Below w.heap.size w W1 := by rw [← hW1]; exact below_alloc hb1 _
  have HBK := Lib.hid hblk
  rw [hW1]
  clear hW1 hb1 hblk
  refine (path_any ⟨#[47, 97, 47, 98]⟩ W1 m (by decide) shown_words1.1 shown_words1.2.1 shown_words1.2.2 (pw_cell_below hB1 HM.out)).mono ?_
  rintro e w2 ⟨A2, c2, rfl, hc2, hC2, hb2⟩
  rw [shown_path1] at hC2 hc2 ⊢
  have hB2 := below_step hB1 hb2
  have HC2 := Lib.hid hC2
  have HBK2 := Lib.hid (blk_below HBK.out hb2)
  clear hC2 hb2
  go_wp2_with fail
  refine (path_any ⟨#[47, 46, 46]⟩ w2 m (by decide) shown_words2.1 shown_words2.2.1 shown_words2.2.2 (pw_cell_below hB2 HM.out)).mono ?_
  rintro e w3 ⟨A3, c3, rfl, hc3, hC3, hb3⟩
  rw [shown_path2]
  have hB3 := below_step hB2 hb3
  have HC3 := Lib.hid (Kd.C_below HC2.out hb3)
  have HBK3 := Lib.hid (blk_below HBK2.out hb3)
  clear hC3 hc3 hb3
  go_wp2_with fail
  obtain ⟨W3, hW3⟩ : ∃ W3, w3.alloc (.cells #[.int .i64 300] 3) = W3 := ⟨_, rfl⟩
  have hn3 : numIs W3 w3.heap.size [300] := by rw [← hW3]; exact blk_new _ _
  have hbW3 : Below w3.heap.size w3 W3 := by rw [← hW3]; exact below_alloc (Below.refl _ _) _
  have hI3 := (int_read (hn3.own (base := 0) (ok := fun _ => True) (Nat.zero_le _) (by decide) trivial)).2.2
  rw [hW3]
  have hput := put_any ⟨1, 420, 3, [300], 0⟩ (some ⟨w3.heap.size, 0, none⟩) 1 W3 (HS.out.below (below_step hB3 hbW3)) hI3 (Nat.le_refl _)
  refine hput.mono ?_
  rintro e w4 ⟨v4, v5, rfl, hR4, hR5, hb4⟩
  rw [shown_put] at hR4 ⊢
  obtain ⟨g, cap, rfl, _, _, _⟩ := Kd.R_form hR4 (by simp)
  have hC4 := (int_read hR4).2.2
  have hb34 := below_step hbW3 hb4
  have hB4 := below_step hB3 hb34
  have hC24 := Kd.C_below HC3.out hb34
  obtain ⟨ad, e2, hs0⟩ := str_pos hC24 1 (by decide)
  subst e2
  have hs1 : w4.cell? ⟨ad.block, ad.off + 1, none⟩ = some (.string ⟨#[98]⟩) := hs0
  have u0 : w4.cell? ⟨g, 0, none⟩ = some (.int .u8 1) := u8_at hR4 0 (by decide)
  have u2 : w4.cell? ⟨g, 2, none⟩ = some (.int .u8 164) := u8_at hR4 2 (by decide)
  have u4 : w4.cell? ⟨g, 4, none⟩ = some (.int .u8 3) := u8_at hR4 4 (by decide)
  have u7 : w4.cell? ⟨g, 7, none⟩ = some (.int .u8 1) := u8_at hR4 7 (by decide)
  have u8 : w4.cell? ⟨g, 8, none⟩ = some (.int .u8 44) := u8_at hR4 8 (by decide)
  have hb := blk_below HBK3.out hb34
  have l4 : w4.cell? ⟨w1.heap.size, 4, none⟩ = some (.int .i64 201) := (blk_cell hb 4).trans rfl
  have l5 : w4.cell? ⟨w1.heap.size, 5, none⟩ = some (.int .i64 202) := (blk_cell hb 5).trans rfl
  have l6 : w4.cell? ⟨w1.heap.size, 6, none⟩ = some (.int .i64 234) := (blk_cell hb 6).trans rfl
  have l7 : w4.cell? ⟨w1.heap.size, 7, none⟩ = some (.int .i64 64) := (blk_cell hb 7).trans rfl
  have HC1 := Lib.hid (show Calls Tryd.prog 41 #[.int .i64 1, .int .i64 385] w4 (fun e w' => e = .returned (.int .i64 8) ∧ w' = w4) from cost_any 1 385 w4 (HS.out.below hB4))
  have HC22 := Lib.hid (show Calls Tryd.prog 41 #[.int .i64 2, .int .i64 16] w4 (fun e w' => e = .returned (.int .i64 9) ∧ w' = w4) from cost_any 2 16 w4 (HS.out.below hB4))
  have HB4 := Lib.hid hB4
  clear hb hs0 hC24 hC4 hR4 hR5 hb4 hput hI3 hW3 hn3 hbW3 hb34 hB1 hB2 hB3 hB4
  go_wp2_with fail
  refine HC1.out.mono ?_
  intro e w5 h5
  rw [h5.1, h5.2]
  clear h5
  go_wp2_with fail
  refine HC22.out.mono ?_
  intro e w6 h6
  rw [h6.1, h6.2]
  clear h6
  go_wp2
  go_ret
  exact ⟨rfl, HB4.out⟩
end Go.Proofs.YtmjmcmohicjfkaaDoor.lay
