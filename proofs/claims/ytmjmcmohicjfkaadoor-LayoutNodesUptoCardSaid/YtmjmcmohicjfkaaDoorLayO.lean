import Derived.Test.YtmjmcmohicjfkaaDoorLayN
import Derived.Test.YtmjmcmohicjfkaaDoorLayM
/-
  LayoutNodes: the walk.
-/
namespace Go.Proofs.YtmjmcmohicjfkaaDoor.lay
open Go.RowKit Go.Shelf Go.Proofs.YtmjmcmohicjfkaaDoorW.PrintWords Go.Proofs.YtmjmcmohicjfkaaDoorW.PrintMore Go.Proofs.YtmjmcmohicjfkaaDoor.PLayoutTakes Go.Proofs.YtmjmcmohicjfkaaDoor.tab
attribute [local go_sem] max2_int min2_int max_two min_two

theorem take_any (b : List Int) (A : Option Addr) (c : Nat) (w : World) (hb : Bytes b) (hr : (Kd.int .u8).C w A b.length b) (hc : b.length ≤ c) (hS : Shapes w) :
    Calls Tryd.prog 15 #[.slice A b.length c] w (TakePost b w) := by
  by_cases hl : b.length = 32
  · exact take_32 b A c w hb hl hr hc hS
  · exact take_short b A c w hl
theorem boxIs.below {W W1 : World} {g B : Nat} {x : Ino} {A : Option Addr} {c : Nat} (h : boxIs W g x A c) (hb : Below B W W1) (hg : g < B) : boxIs W1 g x A c := (hb.block g hg).trans h
theorem rput_any (x : Ino) (A : Option Addr) (c : Nat) (w : World) (hr : (Kd.int .i64).C w A x.blocks.length x.blocks) (hc : x.blocks.length ≤ c) :
    Calls Tryd.prog 13 #[.agg #[.int .i64 x.kind, .int .i64 x.mode, .int .i64 x.size, .slice A x.blocks.length c, .int .i64 x.more]] w fun e w' => ∃ v0 v1, e = .returned (.tuple #[v0, v1, .int .i64 (putNode x).2.2]) ∧
      (Kd.int .u8).R 5 w' w.heap.size (fun _ => True) v0 (putNode x).1 ∧ (Kd.int .u8).R 5 w' w.heap.size (fun _ => True) v1 (putNode x).2.1 ∧ Below w.heap.size w w' :=
  (majordomoref03_PutNode.calls 200 _ _ _ A c x.blocks _ (putNode x).1 (putNode x).2.1 (putNode x).2.2 w hr hc (rput_eval 200 x (by omega))).mono fun e w' ⟨v0, v1, he, h0, h1, hb⟩ => ⟨v0, v1, he, Kd.R_mono h0 (fun _ _ => trivial), Kd.R_mono h1 (fun _ _ => trivial), hb⟩
theorem same3_any (x y : Ino) (A B : Option Addr) (c d : Nat) (w : World) (hl : x.blocks.length ≤ 1000000000) (hr : (Kd.int .i64).C w A x.blocks.length x.blocks) (hc : x.blocks.length ≤ c) (hr2 : (Kd.int .i64).C w B y.blocks.length y.blocks) (hd : y.blocks.length ≤ d) :
    Calls Tryd.prog 14 #[.agg #[.int .i64 x.kind, .int .i64 x.mode, .int .i64 x.size, .slice A x.blocks.length c, .int .i64 x.more], .agg #[.int .i64 y.kind, .int .i64 y.mode, .int .i64 y.size, .slice B y.blocks.length d, .int .i64 y.more]] w fun e w' => e = .returned (.bool (sameB x y)) ∧ Below w.heap.size w w' :=
  majordomolaw03_same.calls (x.blocks.length + 1) _ _ _ A c x.blocks _ _ _ _ B d y.blocks _ (sameB x y) w hr hc hr2 hd (same_eval _ x y (by omega) (by omega))
theorem str_of {W : World} {b : Nat} {ok : Nat → Prop} {A : Option Addr} {n c : Nat} {l : List Int} (h : (Kd.int .u8).R 5 W b ok (.slice A n c) l) : (convert 24 9 (.slice A n c)).run Tryd.prog W = .ok (.string (strOfNums l)) W :=
  Kd.C_string Tryd.underlying24 Tryd.underlying5 Tryd.underlying9 (int_read h).2.2

set_option maxRecDepth 100000 in
set_option maxHeartbeats 8000000 in
theorem nodes_any (x : Ino) (A : Option Addr) (c : Nat) (w : World) (m : Int) (hl : x.blocks.length ≤ 1000000000) (hS : Shapes w) (hr : (Kd.int .i64).C w A x.blocks.length x.blocks) (hc : x.blocks.length ≤ c) (hm : w.cell? ⟨1, 0, none⟩ = some (.int .i64 m)) :
    Calls Tryd.prog 4 #[.agg #[.int .i64 x.kind, .int .i64 x.mode, .int .i64 x.size, .slice A x.blocks.length c, .int .i64 x.more]] w fun e w' => e = .returned (.bool true) ∧ Below w.heap.size w w' := by
  obtain ⟨W0, hW0⟩ : ∃ W0, w.alloc (.cells #[.int .i64 x.kind, .int .i64 x.mode, .int .i64 x.size, .slice A x.blocks.length c, .int .i64 x.more] 32) = W0 := ⟨_, rfl⟩
  have hB0 : Below w.heap.size w W0 := by rw [← hW0]; exact below_alloc (Below.refl _ _) _
  have s0 : w.heap.size < W0.heap.size := by rw [← hW0]; simp
  have x0 : boxIs W0 w.heap.size x A c := by rw [← hW0]; exact blk_new _ _
  have HX := Lib.hid x0
  have HS := Lib.hid hS
  have HR := Lib.hid hr
  have HM := Lib.hid (pw_cell_below hB0 hm)
  have HB0 := Lib.hid hB0
  have HC := Lib.hid hc
  have HL := Lib.hid hl
  clear x0 hS hr hB0 hm hc
  go_enter Tryd.func4, Tryd.ntmps4
  go_wp2_with fail
  refine (shown3_any W0 m (HS.out.below HB0.out) HM.out).mono ?_
  rintro e w1 ⟨rfl, hb1⟩
  have hz1 := hb1.size
  have hx1 : boxIs w1 w.heap.size x A c := blk_below HX.out hb1
  obtain ⟨p0, p1, p2, p3, p4⟩ := hx1.cells
  have hlt1 : w.heap.size < w1.heap.size := by omega
  have HX1 := Lib.hid hx1
  have HB1 := Lib.hid (below_step HB0.out hb1)
  clear hx1 hb1
  obtain ⟨W1, hW1⟩ : ∃ W1, (w1.alloc (.cells #[.int .i64 x.kind, .int .i64 x.mode, .int .i64 x.size, .slice A x.blocks.length c, .int .i64 x.more] 32)).alloc (.cells #[] 3) = W1 := ⟨_, rfl⟩
  have hbW1 : Below w1.heap.size w1 W1 := by rw [← hW1]; exact below_alloc (below_alloc (Below.refl _ _) _) _
  have hown : boxIs W1 w1.heap.size x A c := by rw [← hW1]; exact blk_alloc (blk_new _ _) _
  have hlit : (Kd.int .i64).R 3 W1 w1.heap.size (fun j => w1.heap.size ≤ j) (.slice (some ⟨w1.heap.size + 1, 0, none⟩) 0 0) [] := by
    have h := numIs.own (base := w1.heap.size) (ok := fun j => w1.heap.size ≤ j) (l := []) (g := w1.heap.size + 1) (W := W1) (by
      rw [← hW1]
      have := blk_new (w1.alloc (.cells #[.int .i64 x.kind, .int .i64 x.mode, .int .i64 x.size, .slice A x.blocks.length c, .int .i64 x.more] 32)) (.cells #[] 3)
      rw [World.size_alloc] at this
      exact this) (by omega) (by decide) (by omega)
    exact h
  have hCx : (Kd.int .i64).C W1 A x.blocks.length x.blocks := Kd.C_below HR.out (below_step HB1.out hbW1)
  have hsz1 : w1.heap.size + 2 = W1.heap.size := by rw [← hW1]; simp
  have q3 : W1.cell? ⟨w.heap.size, 3, none⟩ = some (.slice A x.blocks.length c) := (HX1.out.below hbW1 (by omega)).cells.2.2.2.1
  have HOWN := Lib.hid hown
  have HLIT := Lib.hid hlit
  have HCX := Lib.hid hCx
  have HBW1 := Lib.hid hbW1
  have HSZ1 := Lib.hid hsz1
  clear hown hlit hCx hbW1 hsz1
  go_wp2_with (at_builtin; refine Kd.R_append_rows (Kd.int .i64) (Rr := fun x cs => (Kd.int .i64).K W1 x cs) (w0 := w1) w1.heap.size rfl (.tmp 19) (.tmp 21) 30 3 (.int .i64 0) 8 rfl Tryd.underlying30 (by kernel_rfl) rfl (by decide) (by decide) (.slice (some ⟨w1.heap.size + 1, 0, none⟩) 0 0) [] x.blocks A x.blocks.length c (fun j => w1.heap.size ≤ j) (fun _ => False) rfl rfl
                  HLIT.out HCX.out (fun x cs h => h) (fun j hj => hj.elim) (fun j hj => by have := HBW1.out.size; omega) HBW1.out HBW1.out.size (by have := HL.out; simp; omega) ?_
               intro v2 w2 hR2 hB2 hg2 hat2
               rw [List.nil_append] at hR2
               have hown2 : boxIs w2 w1.heap.size x A c := blk_grown HOWN.out hg2 (by simp only [Value.ownBlock]; intro e; injection e; omega)
               obtain ⟨A2, c2, rfl⟩ := Kd.R_slice hR2
               have z2 := hown2.cells.2.2.2.1
               have zf2 := blk_frozen hown2 3
               have H2 := Lib.hid (And.intro hown2 (And.intro hR2 hB2))
               clear hown2 hR2 hB2 hg2 hat2
               obtain ⟨W3, hW3⟩ : ∃ W3, w2.setCell ⟨w1.heap.size, 3, none⟩ (.slice A2 x.blocks.length c2) = W3 := ⟨_, rfl⟩
               have hy3 : boxIs W3 w1.heap.size x A2 c2 := (by rw [← hW3]; exact blk_put H2.out.1 3 _ rfl)
               obtain ⟨y0, y1, y2, y3, y4⟩ := hy3.cells
               have HW3 := Lib.hid hW3
               have HY3 := Lib.hid hy3
               clear hy3)
  have HB13 := Lib.hid (show Below w1.heap.size w1 W3 by rw [← HW3.out]; exact below_set H2.out.2.2 (Nat.le_refl _))
  have HR3 := Lib.hid (show (Kd.int .i64).R 3 W3 w1.heap.size (fun j => w1.heap.size ≤ j) (.slice A2 x.blocks.length c2) x.blocks by rw [← HW3.out]; exact Kd.R_set H2.out.2.1 H2.out.1 (by decide) 3 _)
  have HX3 := Lib.hid (HX1.out.below HB13.out (by omega))
  have HB3 := Lib.hid (below_step HB1.out HB13.out)
  have hz3 := HB13.out.size
  have hy3lt := blk_lt HY3.out
  clear y0 y1 y2 y3 y4 z2 zf2 hW1 hW3 p0 p1 p2 p3 p4 q3
  refine (put_any x A2 c2 W3 (HS.out.below HB3.out) (int_read HR3.out).2.2 (int_read HR3.out).2.1).mono ?_
  rintro e w4 ⟨v5, v6, rfl, hR5, hR6, hb4⟩
  have hz4 := hb4.size
  obtain ⟨p0, p1, p2, p3, p4⟩ := (HX3.out.below hb4 (by omega)).cells
  have HR5 := Lib.hid hR5
  have HR6 := Lib.hid hR6
  have HB4 := Lib.hid hb4
  clear hR5 hR6 hb4
  go_wp2_with fail
  refine (rput_any x A c w4 (Kd.C_below HR.out (below_step HB3.out HB4.out)) HC.out).mono ?_
  rintro e w5 ⟨v8, v9, rfl, hR8, hR9, hb5⟩
  have HB35 := Lib.hid (below_step HB4.out hb5)
  have hz5 := hb5.size
  obtain ⟨q0, q1, q2, q3, q4⟩ := (HX3.out.below HB35.out (by omega)).cells
  obtain ⟨y0, y1, y2, y3, y4⟩ := (HY3.out.below HB35.out (by omega)).cells
  have HR55 := Lib.hid (Kd.R_below HR5.out hb5)
  have HR65 := Lib.hid (Kd.R_below HR6.out hb5)
  have HR8 := Lib.hid hR8
  have HR9 := Lib.hid hR9
  clear hR8 hR9 hb5 p0 p1 p2 p3 p4
  go_wp2_with fail
  refine (same3_any x x A2 A c2 c w5 HL.out (Kd.C_below (int_read HR3.out).2.2 HB35.out) (int_read HR3.out).2.1 (Kd.C_below HR.out (below_step HB3.out HB35.out)) HC.out).mono ?_
  rintro e w6 ⟨rfl, hb6⟩
  rw [sameB_self]
  have HB36 := Lib.hid (below_step HB35.out hb6)
  have hz6 := hb6.size
  obtain ⟨A5, c5, rfl⟩ := Kd.R_slice HR55.out
  obtain ⟨A6, c6, rfl⟩ := Kd.R_slice HR65.out
  obtain ⟨A8, c8, rfl⟩ := Kd.R_slice HR8.out
  obtain ⟨A9, c9, rfl⟩ := Kd.R_slice HR9.out
  have HR56 := Lib.hid (Kd.R_below HR55.out hb6)
  have HR66 := Lib.hid (Kd.R_below HR65.out hb6)
  have u5 := str_of HR56.out
  have u6 := str_of HR66.out
  have u8 := str_of (Kd.R_below HR8.out hb6)
  have u9 := str_of (Kd.R_below HR9.out hb6)
  clear q0 q1 q2 q3 q4 y0 y1 y2 y3 y4 hb6
  cases hmay : mayB x with
  | false =>
    have hp := putNode_no x hmay
    rw [hp] at u5 u6 u8 u9 ⊢
    simp only [List.length_nil] at u5 u6 u8 u9 ⊢
    clear hp hmay
    go_wp2
    go_ret
    exact ⟨rfl, below_step HB3.out HB36.out⟩
  | true =>
    have hp : putNode x = (nodeBytes x, moreBytes x, 0) := by unfold putNode; rw [hmay]; rfl
    have HMAY := Lib.hid hmay
    rw [hp] at u5 u6 u8 u9 HR56 HR66 ⊢
    clear hp hmay
    have hnl := node_length (x := x)
    have HNB := Lib.hid (Bytes.node x)
    have HMB := Lib.hid (Bytes.more x)
    have HBACK := Lib.hid (node_back HMAY.out)
    have HMORE := Lib.hid (fun h6 => more_back HMAY.out h6)
    have HTK := Lib.hid (take_any (nodeBytes x) A5 c5 w6 HNB.out (int_read HR56.out).2.2 (int_read HR56.out).2.1 (HS.out.below (below_step HB3.out HB36.out)))
    simp only at u5 u6 u8 u9
    simp only [hnl] at u5 u8 HTK ⊢
    clear hnl
    generalize nodeBytes x = nb at *
    generalize moreBytes x = mb at *
    go_wp2_with fail
    refine HTK.out.mono ?_
    rintro e w7 ⟨v7, rfl, hR7, hb7⟩
    rw [HBACK.out] at hR7 ⊢
    simp only at hR7 ⊢
    have hz7 := hb7.size
    have HB37 := Lib.hid (below_step HB36.out hb7)
    have HR67 := Lib.hid (Kd.R_below HR66.out hb7)
    obtain ⟨q0, q1, q2, q3, q4⟩ := (HX3.out.below HB37.out (by omega)).cells
    have hlt7 : w.heap.size < w7.heap.size := by omega
    obtain ⟨A7, c7, rfl⟩ := Kd.R_slice hR7
    by_cases h6 : x.blocks.length ≤ 6
    · have e0 : max (0 : Int) ((x.blocks.length : Int) - 6) = 0 := by omega
      have e1 : x.blocks.take 6 = x.blocks := List.take_of_length_le h6
      rw [e1] at hR7 ⊢
      rw [e0]
      have HR7 := Lib.hid hR7
      have hle : (x.blocks.length : Int) - 6 ≤ 0 := by omega
      have hl6 : (x.blocks.length : Int) ≤ 6 := by omega
      have hmn : ((x.blocks.length : Int) != if (x.blocks.length : Int) < 6 then (x.blocks.length : Int) else 6) = false := by
        by_cases h : (x.blocks.length : Int) < 6
        · rw [if_pos h]; simp
        · rw [if_neg h]; simp; omega
      obtain ⟨W7, hW7⟩ : ∃ W7, w7.alloc (.cells #[.int .i64 x.kind, .int .i64 x.mode, .int .i64 x.size, .slice A7 x.blocks.length c7, .int .i64 x.more] 32) = W7 := ⟨_, rfl⟩
      have hbW7 : Below w7.heap.size w7 W7 := by rw [← hW7]; exact below_alloc (Below.refl _ _) _
      have hx7 : boxIs W7 w.heap.size x A c := (HX3.out.below (below_step HB37.out hbW7) (by omega))
      have hy7 : boxIs W7 w7.heap.size x A7 c7 := by rw [← hW7]; exact blk_new _ _
      obtain ⟨r0, r1, r2, r3, r4⟩ := hx7.cells
      obtain ⟨t0, t1, t2, t3, t4⟩ := hy7.cells
      have HB37' := Lib.hid (below_step HB37.out hbW7)
      have HR7' := Lib.hid (Kd.R_below HR7.out hbW7)
      clear hR7 hb7 e0 e1 u5 u6 u8 u9 hx7 hy7 hbW7
      go_wp2_with fail
      all_goals
        refine (same3_any x x A7 A c7 c W7 HL.out (int_read HR7'.out).2.2 (int_read HR7'.out).2.1 (Kd.C_below HR.out (below_step HB3.out HB37'.out)) HC.out).mono ?_
        rintro e w8 ⟨rfl, hb8⟩
        rw [sameB_self]
        have HB38 := Lib.hid (below_step HB37'.out hb8)
        go_wp2
        go_ret
        exact ⟨rfl, below_step HB3.out HB38.out⟩
    · have e0 : max (0 : Int) ((x.blocks.length : Int) - 6) = (x.blocks.length : Int) - 6 := by omega
      have e1 : (x.blocks.take 6).length = 6 := by rw [List.length_take]; omega
      rw [e1, e0]
      rw [e1] at hR7
      have HR7 := Lib.hid hR7
      have e1' := e1
      have hl6 : (6 : Int) < (x.blocks.length : Int) := by omega
      have HM6 := Lib.hid (HMORE.out (by omega))
      have HH6 := Lib.hid h6
      obtain ⟨W7, hW7⟩ : ∃ W7, w7.alloc (.cells #[.int .i64 x.kind, .int .i64 x.mode, .int .i64 x.size, .slice A7 6 c7, .int .i64 x.more] 32) = W7 := ⟨_, rfl⟩
      have hbW7 : Below w7.heap.size w7 W7 := by rw [← hW7]; exact below_alloc (Below.refl _ _) _
      have hx7 : boxIs W7 w.heap.size x A c := (HX3.out.below (below_step HB37.out hbW7) (by omega))
      have hy7 : nodeIs W7 w7.heap.size x.kind x.mode x.size (.slice A7 6 c7) x.more := by rw [← hW7]; exact blk_new _ _
      obtain ⟨r0, r1, r2, r3, r4⟩ := hx7.cells
      obtain ⟨t0, t1, t2, t3, t4⟩ := hy7.cells
      have HY7 := Lib.hid hy7
      have HB37' := Lib.hid (below_step HB37.out hbW7)
      have HR7' := Lib.hid (Kd.R_below HR7.out hbW7)
      have HR67' := Lib.hid (Kd.R_below HR67.out hbW7)
      have hmx : ((x.blocks.length : Int) - 6 != if 6 < (x.blocks.length : Int) then (x.blocks.length : Int) - 6 else 0) = false := by rw [if_pos hl6]; simp
      have hmn : ((6 : Int) != if (x.blocks.length : Int) < 6 then (x.blocks.length : Int) else 6) = false := by rw [if_neg (by omega)]; rfl
      clear hR7 hb7 e0 e1 u5 u6 u8 u9 hx7 hy7 hbW7
      go_wp2_with fail
      refine (layout_TakeMore.calls 200 A6 c6 mb _ (x.blocks.drop 6) 0 W7 (int_read HR67'.out).2.2 (int_read HR67'.out).2.1 (by rw [more_eval 200 HMB.out _ (by omega), HM6.out])).mono ?_
      rintro e w8 ⟨v8, rfl, hR8, hb8⟩
      obtain ⟨A10, c10, rfl⟩ := Kd.R_slice hR8
      have hld : (x.blocks.drop 6).length = x.blocks.length - 6 := List.length_drop
      have HX8 := Lib.hid (show boxIs w8 w.heap.size x A c from blk_below (HX3.out.below HB37'.out (by omega)) hb8)
      have HY8 := Lib.hid (show nodeIs w8 w7.heap.size x.kind x.mode x.size (.slice A7 6 c7) x.more from blk_below HY7.out hb8)
      have HC8 := Lib.hid (int_read hR8).2.2
      have HB38 := Lib.hid (below_step HB37'.out hb8)
      have HR78 := Lib.hid (Kd.R_below HR7'.out hb8)
      have hz8 := hb8.size
      have HNY := Lib.hid (Kd.R_ne HR78.out HY8.out (by decide))
      obtain ⟨q0, q1, q2, q3, q4⟩ := HX8.out.cells
      obtain ⟨y0, y1, y2, y3, y4⟩ := HY8.out.cells
      have HLD := Lib.hid hld
      have HTD := Lib.hid (show x.blocks.take 6 ++ x.blocks.drop 6 = x.blocks from List.take_append_drop 6 x.blocks)
      have hz7' := hz7
      have hB3w6 := HB36.out.size
      have hz38 := HB38.out.size
      clear hR8 hb8 hld r0 r1 r2 r3 r4 t0 t1 t2 t3 t4
      have HLT := Lib.hid e1'
      clear e1'
      generalize hls : x.blocks.take 6 = ls at *
      generalize hrs : x.blocks.drop 6 = rs at *
      have HLS := Lib.hid hls
      have HRS := Lib.hid hrs
      clear hls hrs
      go_wp2_with (at_builtin; refine Kd.R_append_rows (Kd.int .i64) (Rr := fun x cs => (Kd.int .i64).K w8 x cs) (w0 := W3) W3.heap.size rfl (.tmp 104) (.tmp 105) 30 3 (.int .i64 0) 8 rfl Tryd.underlying30 (by kernel_rfl) rfl (by decide) (by decide) (.slice A7 6 c7) ls rs A10 rs.length c10 (fun j => W3.heap.size ≤ j) (fun _ => False) rfl rfl
                      (Kd.R_mono (Kd.R_lower HR78.out (by omega)) (fun j hj => by omega)) HC8.out (fun x cs h => h) (fun j hj => hj.elim) (fun j hj => by omega) HB38.out (by omega) (by have := HL.out; have := HLD.out; have := HLT.out; omega) ?_
                   intro v9 w9 hR9 hB9 hg9 hat9
                   have hy9 : nodeIs w9 w7.heap.size x.kind x.mode x.size (.slice A7 6 c7) x.more := blk_grown HY8.out hg9 HNY.out
                   obtain ⟨A12, c12, rfl⟩ := Kd.R_slice hR9
                   have z9 := hy9.cells.2.2.2.1
                   have zf9 := blk_frozen hy9 3
                   have H9 := Lib.hid (And.intro hy9 (And.intro hR9 hB9))
                   clear hy9 hR9 hB9 hg9 hat9
                   generalize hfl : ls ++ rs = full at *
                   obtain ⟨W10, hW10⟩ : ∃ W10, w9.setCell ⟨w7.heap.size, 3, none⟩ (.slice A12 full.length c12) = W10 := ⟨_, rfl⟩
                   have hy10 : nodeIs W10 w7.heap.size x.kind x.mode x.size (.slice A12 full.length c12) x.more := (by rw [← hW10]; exact blk_put H9.out.1 3 _ rfl)
                   have HW10 := Lib.hid hW10
                   have HFL := Lib.hid hfl
                   have hx10 : boxIs W10 w.heap.size x A c := ((HX3.out.below (show Below W3.heap.size W3 W10 by rw [← hW10]; exact below_set H9.out.2.2 (by omega)) (by omega)))
                   obtain ⟨r0, r1, r2, r3, r4⟩ := hx10.cells
                   obtain ⟨t0, t1, t2, t3, t4⟩ := hy10.cells
                   clear hfl hy10 hx10 y0 y1 y2 y3 y4 q0 q1 q2 q3 q4)
      have hfull : full = x.blocks := HTD.out
      subst hfull
      have HB3X := Lib.hid (show Below W3.heap.size W3 W10 by rw [← HW10.out]; exact below_set H9.out.2.2 (by omega))
      have HR10 := Lib.hid (show (Kd.int .i64).R 3 W10 W3.heap.size (fun j => W3.heap.size ≤ j) (.slice A12 x.blocks.length c12) x.blocks by rw [← HW10.out]; exact Kd.R_set H9.out.2.1 H9.out.1 (by decide) 3 _)
      refine (same3_any x x A12 A c12 c W10 HL.out (int_read HR10.out).2.2 (int_read HR10.out).2.1 (Kd.C_below HR.out (below_step HB3.out HB3X.out)) HC.out).mono ?_
      rintro e w11 ⟨rfl, hb11⟩
      rw [sameB_self]
      have HB3Y := Lib.hid (below_step HB3X.out hb11)
      go_wp2
      go_ret
      exact ⟨rfl, below_step HB3.out HB3Y.out⟩
end Go.Proofs.YtmjmcmohicjfkaaDoor.lay
