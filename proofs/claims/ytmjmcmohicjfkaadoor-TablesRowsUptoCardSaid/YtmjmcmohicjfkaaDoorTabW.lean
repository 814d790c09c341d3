import Derived.Test.YtmjmcmohicjfkaaDoorTabV
/-
  TablesRows: the walk.
-/
namespace Go.Proofs.YtmjmcmohicjfkaaDoor.tab
open Go.RowKit Go.Shelf Go.Proofs.YtmjmcmohicjfkaaDoorW.PrintWords

/-- A variable of a row. -/
def isVar (W : World) (g : Nat) (r : Row) (A : Option Addr) (c : Nat) : Prop := W.heap[g]? = some (.cells #[.string r.f0, .slice A r.f1.length c] 52 (0, 0))
theorem isVar.cells {W : World} {g : Nat} {r : Row} {A : Option Addr} {c : Nat} (h : isVar W g r A c) : W.cell? ⟨g, 0, none⟩ = some (.string r.f0) ∧ W.cell? ⟨g, 1, none⟩ = some (.slice A r.f1.length c) := ⟨(blk_cell h 0).trans rfl, (blk_cell h 1).trans rfl⟩
theorem isVar.below {W W1 : World} {g B : Nat} {r : Row} {A : Option Addr} {c : Nat} (h : isVar W g r A c) (hb : Below B W W1) (hg : g < B) : isVar W1 g r A c := (hb.block g hg).trans h
theorem C_at {W W1 : World} {A : Option Addr} {l : List Row} (h : kRow.C W A l.length l) {B : Nat} (hb : Below B W W1) (hB : W.heap.size ≤ B) : kRow.C W1 A l.length l := Kd.C_below h (hb.mono hB)

theorem row_one {W : World} {g : Nat} {r : Row} {A : Option Addr} {c : Nat} (h : isVar W g r A c) (hc : r.f1.length ≤ c) (hC : Kd.string.C W A r.f1.length r.f1) : kRow.C W (some ⟨g, 0, none⟩) 1 [r] := by
  refine ⟨rfl, by simp, fun _ => ⟨_, rfl, fun j p hj => ?_⟩⟩
  obtain ⟨rfl, rfl⟩ : j = 0 ∧ p = r := by
    cases j with
    | zero => exact ⟨rfl, by simpa using hj.symm⟩
    | succ j => simp at hj
  refine ⟨[.string p.f0, .slice A p.f1.length c], rfl, ⟨[.string p.f0], [.slice A p.f1.length c], rfl, rfl, A, c, rfl, hc, hC⟩, fun i u hu => ?_⟩
  rw [add_plain, blk_cell h]
  match i with
  | 0 => simpa using hu
  | 1 => simpa using hu
  | i + 2 => simp at hu
theorem lent_one (r : Row) (g : Nat) (w : World) (hr : kRow.C w (some ⟨g, 0, none⟩) 1 [r]) (hf : r.f1.length ≤ 8796093022207) :
    Calls Tryd.prog 24 #[.slice (some ⟨g, 0, none⟩) 1 1] w fun e w' => ∃ b A1 c1 cc, e = .returned (.slice (some ⟨b, 0, none⟩) 1 cc) ∧ w'.cell? ⟨b, 0, none⟩ = some (.string r.f0) ∧ w'.cell? ⟨b, 1, none⟩ = some (.slice A1 r.f1.length c1) ∧ r.f1.length ≤ c1 ∧ Kd.string.C w' A1 r.f1.length r.f1 ∧ Below w.heap.size w w' := by
  refine (lent_any [r] (some ⟨g, 0, none⟩) 1 w hr ⟨fun x hx => by rw [List.mem_singleton.1 hx]; exact hf, by simp⟩).mono fun e w' ⟨v, he, hN, hb⟩ => ?_
  obtain ⟨b, cc, rfl, _⟩ := Kd.N_form hN (by simp)
  obtain ⟨ad, A1, c1, e2, r0, r1, hc1, hC1⟩ := at_Row (Kd.N_reads' hN).2.2 0 (by simp)
  obtain rfl := Option.some.inj e2
  rw [Nat.zero_mul, add_plain] at r0 r1
  exact ⟨b, A1, c1, cc, he, r0, r1, hc1, hC1, hb⟩

set_option maxRecDepth 100000 in
set_option maxHeartbeats 4000000 in
theorem rows_any (l : List Row) (r : Row) (A Ar : Option Addr) (c cr : Nat) (w : World) (m : Int) (hr : kRow.C w A l.length l) (hf : FitRows l) (hl : l.length ≤ 1099511627775) (hrc : Kd.string.C w Ar r.f1.length r.f1) (hcr : r.f1.length ≤ cr) (hrn : r.f1.length ≤ 8796093022207)
    (hm : w.cell? ⟨1, 0, none⟩ = some (.int .i64 m)) : Calls Tryd.prog 7 #[.slice A l.length c, .agg #[.string r.f0, .slice Ar r.f1.length cr]] w fun e w' => e = .returned (.bool true) ∧ Below w.heap.size w w' := by
  obtain ⟨W0, hW0⟩ : ∃ W0, w.alloc (.cells #[.string r.f0, .slice Ar r.f1.length cr] 52) = W0 := ⟨_, rfl⟩
  have hB0 : Below w.heap.size w W0 := by rw [← hW0]; exact below_alloc (Below.refl _ _) _
  have s0 : W0.heap.size = w.heap.size + 1 := by rw [← hW0]; simp
  have v0 : isVar W0 w.heap.size r Ar cr := by rw [← hW0]; exact blk_new _ _
  have HR := Lib.hid (Kd.C_below hr hB0)
  have HF := Lib.hid hf
  have HRC := Lib.hid (Kd.C_below hrc hB0)
  have HRN := Lib.hid hrn
  have HM := Lib.hid (pw_cell_below hB0 hm)
  have HB0 := Lib.hid hB0
  have HV := Lib.hid v0
  obtain ⟨k0, k1⟩ := v0.cells
  clear hr hf hrc hm hB0 v0 hrn
  go_enter Tryd.func7, Tryd.ntmps7
  go_wp2_with fail
  refine (shown_any W0 m HM.out).mono ?_
  rintro e w1 ⟨rfl, hb1⟩
  have hz1 := hb1.size
  go_wp2_with fail
  refine (lent_any l A c w1 (Kd.C_below HR.out hb1) HF.out).mono ?_
  rintro e w2 ⟨v2, rfl, hN2, hb2'⟩
  obtain ⟨A2, c2, rfl⟩ := Kd.N_slice hN2
  have hb2 := below_step hb1 hb2'
  have hz2 := hb2'.size
  have HOWN := Lib.hid (Kd.N_reads' hN2).2.2
  obtain ⟨p0, p1⟩ := (HV.out.below hb2 (by omega)).cells
  clear hN2 hb2'
  go_wp2_with fail
  obtain ⟨W2, hW2⟩ : ∃ W2, w2.alloc (.cells #[.string r.f0, .slice Ar r.f1.length cr] 52) = W2 := ⟨_, rfl⟩
  have hbW2 : Below w2.heap.size w2 W2 := by rw [← hW2]; exact below_alloc (Below.refl _ _) _
  have hone := row_one (show isVar W2 w2.heap.size r Ar cr by rw [← hW2]; exact blk_new _ _) hcr (Kd.C_below HRC.out (below_step hb2 hbW2))
  rw [hW2]
  refine (lent_one r w2.heap.size W2 hone HRN.out).mono ?_
  rintro e w3 ⟨b3, A3, c3, cc3, rfl, q0, q1, hc3, hC3, hb3'⟩
  have hb3 := below_step hb2 (below_step hbW2 hb3')
  have hz3 := hb3'.size
  have hzW2 := hbW2.size
  have HONE := Lib.hid hC3
  have HOWN3 := Lib.hid (C_at HOWN.out (below_step hbW2 hb3') (Nat.le_refl _))
  clear hC3 hone hb3' hW2 hbW2 HOWN p0 p1 hb2
  obtain ⟨p0, p1⟩ := (HV.out.below hb3 (by omega)).cells
  have hlt3 : w.heap.size < w3.heap.size := by omega
  go_wp2_with fail
  -- own is asked for its key
  obtain ⟨W3, hW3⟩ : ∃ W3, w3.alloc (.cells #[.string r.f0, .slice A3 r.f1.length c3] 52) = W3 := ⟨_, rfl⟩
  have hbW3 : Below w3.heap.size w3 W3 := by rw [← hW3]; exact below_alloc (Below.refl _ _) _
  have HV7 := Lib.hid (show isVar W3 w3.heap.size r A3 c3 by rw [← hW3]; exact blk_new _ _)
  have HONE7 := Lib.hid (Kd.C_below HONE.out hbW3)
  have HOWN7 := Lib.hid (Kd.C_below HOWN3.out hbW3)
  have HB03 := Lib.hid (below_step hb3 hbW3)
  have hzW3 := hbW3.size
  have hsW3 : W3.heap.size = w3.heap.size + 1 := by rw [← hW3]; simp
  rw [hW3]
  clear hW3 hbW3 p0 p1 q0 q1 HONE HOWN3 hb3
  refine (get_own l r.f0 A2 c2 W3 HOWN7.out HF.out).mono ?_
  rintro e w4 ⟨ra, B4, cc4, rfl, hR4, hg4, hb4⟩
  have HG4 := Lib.hid hg4
  have HR4 := Lib.hid hR4
  have HR4B := Lib.hid (Kd.R_mono (Kd.R_bound hR4) (ok' := fun k => W3.heap.size ≤ k ∧ k < w4.heap.size) (fun k hk => ⟨hk.1, hk.2.2.1⟩))
  have hcc4 := (R_read hR4).2.1
  have hz4 := hb4.size
  obtain ⟨p0, p1⟩ := (HV.out.below (below_step HB03.out hb4) (by omega)).cells
  have hlt4 : w.heap.size < w4.heap.size := by omega
  clear hR4 hg4
  go_wp2_with fail
  obtain ⟨W4, hW4⟩ : ∃ W4, w4.alloc (.cells #[.string ra.f0, .slice B4 ra.f1.length cc4] 52) = W4 := ⟨_, rfl⟩
  have hbW4 : Below w4.heap.size w4 W4 := by rw [← hW4]; exact below_alloc (Below.refl _ _) _
  have HV8 := Lib.hid (show isVar W4 w4.heap.size ra B4 cc4 by rw [← hW4]; exact blk_new _ _)
  have HB34 := Lib.hid (below_step hb4 hbW4)
  have HRA := Lib.hid (Kd.R_below HR4.out hbW4)
  have HR4W := Lib.hid (Kd.R_below HR4B.out hbW4)
  have hsW4 : W4.heap.size = w4.heap.size + 1 := by rw [← hW4]; simp
  rw [hW4]
  clear hW4 hbW4 p0 p1 hb4
  refine (refGet_any l r.f0 A c W4 (C_at HR.out (below_step HB03.out HB34.out) (Nat.le_refl _))).mono ?_
  rintro e w5 ⟨rb, B5, cc5, rfl, hcc5, hC5, hg5, hb5⟩
  obtain rfl : ra = rb := HG4.out.symm.trans hg5
  have HC5 := Lib.hid hC5
  have hz5 := hb5.size
  have HB05 := Lib.hid (below_step HB03.out (below_step HB34.out hb5))
  obtain ⟨p0, p1⟩ := (HV.out.below HB05.out (by omega)).cells
  obtain ⟨q0, q1⟩ := (HV7.out.below (below_step HB34.out hb5) (by omega)).cells
  have hlt5 : w.heap.size < w5.heap.size := by omega
  have hlt57 : w3.heap.size < w5.heap.size := by omega
  clear hC5 hg5 HG4
  go_wp2_with fail
  obtain ⟨W5, hW5⟩ : ∃ W5, w5.alloc (.cells #[.string ra.f0, .slice B5 ra.f1.length cc5] 52) = W5 := ⟨_, rfl⟩
  have hbW5 : Below w5.heap.size w5 W5 := by rw [← hW5]; exact below_alloc (Below.refl _ _) _
  have HV10 := Lib.hid (show isVar W5 w5.heap.size ra B5 cc5 by rw [← hW5]; exact blk_new _ _)
  have HC5' := Lib.hid (Kd.C_below HC5.out hbW5)
  have HB45 := Lib.hid (below_step hb5 hbW5)
  have hsW5 : W5.heap.size = w5.heap.size + 1 := by rw [← hW5]; simp
  rw [hW5]
  clear hW5 hbW5 p0 p1 q0 q1 hb5 HC5 HB05
  have HB35 := Lib.hid (below_step HB34.out HB45.out)
  have HB05 := Lib.hid (below_step HB03.out HB35.out)
  -- Set
  have HX6 := Lib.hid (set_own l r A2 A3 c2 c3 W5 (fun k => W5.heap.size ≤ k) (fun _ h => h) (C_at HOWN7.out HB35.out (Nat.le_refl _)) HF.out (Kd.C_below HONE7.out HB35.out) HRN.out)
  refine HX6.out.mono ?_
  rintro e w6 ⟨v6, rfl, hN6, hb6⟩
  have hNx := N_own_mono (Kd.N_bound hN6) (S' := fun k => W5.heap.size ≤ k ∧ k < w6.heap.size) (fun k h1 h2 => ⟨h1, h2⟩)
  obtain ⟨A6, c6, rfl⟩ := Kd.N_slice hN6
  have HNX := Lib.hid hNx
  have HCX := Lib.hid (Kd.N_reads' (N_kRow hNx)).2.2
  have hz6 := hb6.size
  have HB6 := Lib.hid hb6
  obtain ⟨p0, p1⟩ := (HV.out.below (below_step HB05.out hb6) (by omega)).cells
  clear hN6 hNx HX6 hb6
  go_wp2_with fail
  -- the reference's Set
  refine (refSet_any l r A Ar c cr w6 (C_at HR.out (below_step HB05.out HB6.out) (Nat.le_refl _)) HF.out.2 (Kd.C_below HRC.out (below_step HB05.out HB6.out)) hcr).mono ?_
  rintro e w7 ⟨v7, rfl, hN7, hb7⟩
  obtain ⟨A7, c7, rfl⟩ := Kd.N_slice hN7
  have HCY := Lib.hid (Kd.N_reads' hN7).2.2
  have HB57 := Lib.hid (below_step HB6.out hb7)
  have hz7 := hb7.size
  have HCX7 := Lib.hid (Kd.C_below HCX.out hb7)
  have HNX7 := Lib.hid (Kd.N_below HNX.out hb7)
  obtain ⟨p0', p1'⟩ := (HV.out.below (below_step HB05.out HB57.out) (by omega)).cells
  clear hN7 hb7 p0 p1 HCX HNX
  go_wp2_with fail
  -- Drop
  refine (drop_own l r.f0 A2 c2 w7 (fun k => w7.heap.size ≤ k) (fun _ h => h) (C_at HOWN7.out (below_step HB35.out HB57.out) (Nat.le_refl _)) HF.out).mono ?_
  rintro e w8 ⟨v8, rfl, hN8, hb8⟩
  have hNu := N_own_mono (Kd.N_bound hN8) (S' := fun k => w7.heap.size ≤ k ∧ k < w8.heap.size) (fun k h1 h2 => ⟨h1, h2⟩)
  obtain ⟨A8, c8, rfl⟩ := Kd.N_slice hN8
  have HNU := Lib.hid hNu
  have HCU := Lib.hid (Kd.N_reads' (N_kRow hNu)).2.2
  have hz8 := hb8.size
  have HB58 := Lib.hid (below_step HB57.out hb8)
  have HCX8 := Lib.hid (Kd.C_below HCX7.out hb8)
  have HNX8 := Lib.hid (Kd.N_below HNX7.out hb8)
  have HCY8 := Lib.hid (Kd.C_below HCY.out hb8)
  obtain ⟨p0, p1⟩ := (HV.out.below (below_step HB05.out HB58.out) (by omega)).cells
  clear hN8 hNu hb8 p0' p1' HCX7 HNX7 HCY
  go_wp2_with fail
  -- the reference's Drop
  refine (refDrop_any l r.f0 A c w8 (C_at HR.out (below_step HB05.out HB58.out) (Nat.le_refl _)) HF.out.2).mono ?_
  rintro e w9 ⟨v9, rfl, hN9, hb9⟩
  obtain ⟨A9, c9, rfl⟩ := Kd.N_slice hN9
  have HCV := Lib.hid (Kd.N_reads' hN9).2.2
  have hz9 := hb9.size
  have HB59 := Lib.hid (below_step HB58.out hb9)
  have HCX9 := Lib.hid (Kd.C_below HCX8.out hb9)
  have HNX9 := Lib.hid (Kd.N_below HNX8.out hb9)
  have HCY9 := Lib.hid (Kd.C_below HCY8.out hb9)
  have HCU9 := Lib.hid (Kd.C_below HCU.out hb9)
  have HNU9 := Lib.hid (Kd.N_below HNU.out hb9)
  obtain ⟨q0, q1⟩ := (HV8.out.below (below_step HB45.out HB59.out) (by omega)).cells
  obtain ⟨p0', p1'⟩ := (HV10.out.below HB59.out (by omega)).cells
  clear hN9 hb9 p0 p1 HCX8 HNX8 HCY8 HCU HNU
  go_wp2_with fail
  -- SameRow
  refine (sameRow_any ra ra B4 B5 cc4 cc5 w9 (Kd.C_below (Kd.F_now (R_read HRA.out).2.2) (below_step HB45.out HB59.out)) (Kd.C_below HC5'.out HB59.out)).mono ?_
  rintro e w10 ⟨rfl, hb10⟩
  rw [(rowEq_iff ra ra).2 rfl]
  have HB510 := Lib.hid (below_step HB59.out hb10)
  have HCX10 := Lib.hid (Kd.C_below HCX9.out hb10)
  have HNX10 := Lib.hid (Kd.N_below HNX9.out hb10)
  have HCY10 := Lib.hid (Kd.C_below HCY9.out hb10)
  have HCU10 := Lib.hid (Kd.C_below HCU9.out hb10)
  have HNU10 := Lib.hid (Kd.N_below HNU9.out hb10)
  have HCV10 := Lib.hid (Kd.C_below HCV.out hb10)
  have hz10 := hb10.size
  clear hb10 q0 q1 p0' p1' HCX9 HNX9 HCY9 HCU9 HNU9 HCV
  go_wp2_with fail
  refine (same_any (setP l r) (setP l r) A6 A7 c6 c7 w10 HCX10.out HCY10.out).mono ?_
  rintro e w11 ⟨rfl, hb11⟩
  rw [show sameRows (setP l r) (setP l r) = true from decide_eq_true rfl]
  have HB511 := Lib.hid (below_step HB510.out hb11)
  have HCX11 := Lib.hid (Kd.C_below HCX10.out hb11)
  have HNX11 := Lib.hid (Kd.N_below HNX10.out hb11)
  have HCU11 := Lib.hid (Kd.C_below HCU10.out hb11)
  have HNU11 := Lib.hid (Kd.N_below HNU10.out hb11)
  have HCV11 := Lib.hid (Kd.C_below HCV10.out hb11)
  have hz11 := hb11.size
  clear hb11 HCX10 HNX10 HCY10 HCU10 HNU10 HCV10
  go_wp2_with fail
  refine (same_any (dropP l r.f0) (dropP l r.f0) A8 A9 c8 c9 w11 HCU11.out HCV11.out).mono ?_
  rintro e w12 ⟨rfl, hb12⟩
  rw [show sameRows (dropP l r.f0) (dropP l r.f0) = true from decide_eq_true rfl]
  have HB512 := Lib.hid (below_step HB511.out hb12)
  have HCX12 := Lib.hid (Kd.C_below HCX11.out hb12)
  have HNX12 := Lib.hid (Kd.N_below HNX11.out hb12)
  have HCU12 := Lib.hid (Kd.C_below HCU11.out hb12)
  have HNU12 := Lib.hid (Kd.N_below HNU11.out hb12)
  have hz12 := hb12.size
  obtain ⟨p0, p1⟩ := (HV.out.below (below_step HB05.out HB512.out) (by omega)).cells
  clear hb12 HCX11 HNX11 HCU11 HNU11 HCV11
  have hbb : (!(getP l r.f0).isSome == (getP l r.f0).isSome) = false := by simp
  generalize (getP l r.f0).isSome = bb at *
  go_wp2_with fail
  clear hbb
  -- what was set is there
  have hfs := fit_set HF.out hl HRN.out
  refine (get_any (setP l r) r.f0 A6 c6 w12 HCX12.out hfs).mono ?_
  rintro e w13 ⟨rc, B13, cc13, rfl, hcc13, hF13, hg13, hb13⟩
  rw [getP_set] at hg13
  obtain rfl : r = rc := hg13
  rw [getP_set, Option.isSome_some]
  have HC13 := Lib.hid (Kd.F_now hF13)
  have HB513 := Lib.hid (below_step HB512.out hb13)
  have HCU13 := Lib.hid (Kd.C_below HCU12.out hb13)
  have HNX13 := Lib.hid (Kd.N_below HNX12.out hb13)
  have HNU13 := Lib.hid (Kd.N_below HNU12.out hb13)
  have hz13 := hb13.size
  obtain ⟨p0', p1'⟩ := (HV.out.below (below_step HB05.out HB513.out) (by omega)).cells
  have hlt13 : w.heap.size < w13.heap.size := by omega
  clear hb13 hF13 HCX12 HNX12 HCU12 HNU12 hfs p0 p1
  go_wp2_with fail
  obtain ⟨W13, hW13⟩ : ∃ W13, w13.alloc (.cells #[.string r.f0, .slice B13 r.f1.length cc13] 52) = W13 := ⟨_, rfl⟩
  have hbW13 : Below w13.heap.size w13 W13 := by rw [← hW13]; exact below_alloc (Below.refl _ _) _
  have hsW13 : W13.heap.size = w13.heap.size + 1 := by rw [← hW13]; simp
  have HB513' := Lib.hid (below_step HB513.out hbW13)
  rw [hW13]
  refine (sameRow_any r r B13 Ar cc13 cr W13 (Kd.C_below HC13.out hbW13) (Kd.C_below HRC.out (below_step HB05.out HB513'.out))).mono ?_
  rintro e w14 ⟨rfl, hb14⟩
  rw [(rowEq_iff r r).2 rfl]
  have hb14' := below_step hbW13 hb14
  have HB514 := Lib.hid (below_step HB513'.out hb14)
  have HCU14 := Lib.hid (Kd.C_below HCU13.out hb14')
  have HNX14 := Lib.hid (Kd.N_below HNX13.out hb14')
  have HNU14 := Lib.hid (Kd.N_below HNU13.out hb14')
  have hz14 := hb14'.size
  obtain ⟨p0, p1⟩ := (HV.out.below (below_step HB05.out HB514.out) (by omega)).cells
  clear hb14 hb14' HC13 HCU13 HNX13 HNU13 hW13 hbW13 p0' p1' HB513'
  go_wp2_with fail
  -- what was dropped is not
  refine (get_any (dropP l r.f0) r.f0 A8 c8 w14 HCU14.out (fit_drop HF.out)).mono ?_
  rintro e w15 ⟨rd, B15, cc15, rfl, hcc15, hF15, hg15, hb15⟩
  rw [getP_drop, Option.isSome_none]
  have HB515 := Lib.hid (below_step HB514.out hb15)
  have HNX15 := Lib.hid (Kd.N_below HNX14.out hb15)
  have HNU15 := Lib.hid (Kd.N_below HNU14.out hb15)
  have hz15 := hb15.size
  clear hb15 hg15 hF15 HCU14 HNX14 HNU14 p0 p1
  go_wp2_with fail
  obtain ⟨W15, hW15⟩ : ∃ W15, w15.alloc (.cells #[.string rd.f0, .slice B15 rd.f1.length cc15] 52) = W15 := ⟨_, rfl⟩
  have hbW15 : Below w15.heap.size w15 W15 := by rw [← hW15]; exact below_alloc (Below.refl _ _) _
  have HB515' := Lib.hid (below_step HB515.out hbW15)
  have HNX15' := Lib.hid (Kd.N_below HNX15.out hbW15)
  have HNU15' := Lib.hid (Kd.N_below HNU15.out hbW15)
  have hsW15 : W15.heap.size = w15.heap.size + 1 := by rw [← hW15]; simp
  rw [hW15]
  clear hW15 hbW15 HNX15 HNU15
  -- what came out is written over
  refine (spoil_any (fun k => W5.heap.size ≤ k ∧ k < w6.heap.size) _ _ _ _ W15 HNX15'.out (fun k hk => hk)).mono ?_
  rintro e w16 ⟨rfl, hsp16⟩
  have HNU16 := Lib.hid (Kd.N_step HNU15'.out (w1 := w16) (fun k hk _ => hsp16.block k (fun hx => by have := hk.1; have := hx.2; omega)))
  have HB516 := Lib.hid (hsp16.after HB515'.out (fun k hk => hk.1))
  have hz16 : W15.heap.size ≤ w16.heap.size := by rw [hsp16.size]; exact Nat.le_refl _
  clear hsp16 HNX15' HNU15'
  go_wp2_with fail
  refine (spoil_any (fun k => w7.heap.size ≤ k ∧ k < w8.heap.size) _ _ _ _ w16 HNU16.out (fun k hk => hk)).mono ?_
  rintro e w17 ⟨rfl, hsp17⟩
  have HB517 := Lib.hid (hsp17.after HB516.out (fun k hk => by have := hk.1; omega))
  have hz17 : w16.heap.size ≤ w17.heap.size := by rw [hsp17.size]; exact Nat.le_refl _
  obtain ⟨q0, q1⟩ := (HV8.out.below (below_step HB45.out HB517.out) (by omega)).cells
  clear hsp17 HNU16
  go_wp2_with fail
  obtain ⟨W17, hW17⟩ : ∃ W17, w17.alloc (.cells #[.string ra.f0, .slice B4 ra.f1.length cc4] 52) = W17 := ⟨_, rfl⟩
  have hbW17 : Below w17.heap.size w17 W17 := by rw [← hW17]; exact below_alloc (Below.refl _ _) _
  have hV17 : isVar W17 w17.heap.size ra B4 cc4 := by rw [← hW17]; exact blk_new _ _
  rw [hW17]
  have hB4 := below_step (below_step HB45.out HB517.out) hbW17
  have hRa := Kd.R_step HR4W.out (w1 := W17) (fun k hk _ => hB4.block k (by have := hk.2; omega))
  have hPl : Pl (fun k => (W3.heap.size ≤ k ∧ k < w4.heap.size) ∨ w17.heap.size ≤ k) W17 w17.heap.size 1 := by
    refine ⟨_, hV17, fun j hj => ?_⟩
    obtain rfl : j = 0 := by omega
    exact ⟨ra.f0, .slice B4 ra.f1.length cc4, rfl, rfl, cellsOk_of (Kd.R_mono hRa (fun k hk => .inl hk))⟩
  have HB317 := Lib.hid (below_step (below_step HB35.out HB517.out) hbW17)
  refine (spoil_some (fun k => (W3.heap.size ≤ k ∧ k < w4.heap.size) ∨ w17.heap.size ≤ k) w17.heap.size 1 1 W17 hPl (.inr (Nat.le_refl _)) (by omega)).mono ?_
  rintro e w18 ⟨rfl, hsp18⟩
  have HB318 := Lib.hid (hsp18.after HB317.out (fun k hk => by rcases hk with hk | hk <;> omega))
  have HB018 := Lib.hid (below_step HB03.out HB318.out)
  clear hsp18 hPl hRa hB4 hV17 hbW17 hW17 q0 q1
  go_wp2_with fail
  -- what was handed in stays
  refine (same_any l l A2 A c2 c w18 (C_at HOWN7.out HB318.out (Nat.le_refl _)) (C_at HR.out HB018.out (Nat.le_refl _))).mono ?_
  rintro e w19 ⟨rfl, hb19⟩
  rw [show sameRows l l = true from decide_eq_true rfl]
  have HB319 := Lib.hid (HB318.out.trans (hb19.mono (by have := HB318.out.size; omega)))
  have HB019 := Lib.hid (below_step HB03.out HB319.out)
  obtain ⟨p0, p1⟩ := (HV.out.below HB019.out (by omega)).cells
  obtain ⟨q0, q1⟩ := (HV7.out.below HB319.out (by omega)).cells
  clear hb19
  go_wp2_with fail
  refine (sameRow_any r r A3 Ar c3 cr w19 (Kd.C_below HONE7.out HB319.out) (Kd.C_below HRC.out HB019.out)).mono ?_
  rintro e w20 ⟨rfl, hb20⟩
  rw [(rowEq_iff r r).2 rfl]
  go_wp2
  go_ret
  exact ⟨rfl, below_step (below_step HB0.out HB019.out) hb20⟩
end Go.Proofs.YtmjmcmohicjfkaaDoor.tab
