import Derived.Test.YtmjmcmohicjfkaaDoorLayE
/-
  Layout: PutNode of what may be.
-/
namespace Go.Proofs.YtmjmcmohicjfkaaDoor.lay
open Go.RowKit Go.Proofs.YtmjmcmohicjfkaaDoorW.PrintWords Go.Proofs.YtmjmcmohicjfkaaDoorW.PrintMore Go.Proofs.YtmjmcmohicjfkaaDoor.PLayoutTakes Go.Proofs.YtmjmcmohicjfkaaDoor.tab
attribute [local go_sem] max2_int min2_int max_two min_two

/-- make([]byte, n). -/
theorem made_bytes (n : Nat) (hn : n ≤ 1000) (W : World) : ∃ W1, (Instr.makeSlice 24 (.int .i64 (n : Int)) (.int .i64 (n : Int))).run Tryd.prog W = .ok (.slice (some ⟨W.heap.size, 0, none⟩) n n) W1 ∧ blkIs W1 W.heap.size (List.replicate n 0) ∧ Below W.heap.size W W1 ∧ W.heap.size < W1.heap.size := by
  refine ⟨_, print_make_of (P := Tryd.prog) 24 5 (.int .u8 0) 1 Tryd.underlying24 (by kernel_rfl) rfl (by decide) n (by omega) W, ?_, below_alloc (Below.refl _ _) _, by simp⟩
  unfold blkIs
  have h := blk_new W (.cells (madeCells #[Value.int .u8 0] n) 5)
  rw [h]
  congr 2
  apply Array.toList_inj.1
  apply List.ext_getElem
  · simp [madeCells, byt]
  · intro i h1 h2
    simp [madeCells, byt, Nat.mod_one]
def boxIs (W : World) (g : Nat) (x : Ino) (A : Option Addr) (c : Nat) : Prop := W.heap[g]? = some (.cells #[.int .i64 x.kind, .int .i64 x.mode, .int .i64 x.size, .slice A x.blocks.length c, .int .i64 x.more] 32 (0, 0))
theorem boxIs.cells {W : World} {g : Nat} {x : Ino} {A : Option Addr} {c : Nat} (h : boxIs W g x A c) : W.cell? ⟨g, 0, none⟩ = some (.int .i64 x.kind) ∧ W.cell? ⟨g, 1, none⟩ = some (.int .i64 x.mode) ∧ W.cell? ⟨g, 2, none⟩ = some (.int .i64 x.size) ∧ W.cell? ⟨g, 3, none⟩ = some (.slice A x.blocks.length c) ∧ W.cell? ⟨g, 4, none⟩ = some (.int .i64 x.more) :=
  ⟨(blk_cell h 0).trans rfl, (blk_cell h 1).trans rfl, (blk_cell h 2).trans rfl, (blk_cell h 3).trans rfl, (blk_cell h 4).trans rfl⟩

set_option maxRecDepth 100000 in
set_option maxHeartbeats 4000000 in
theorem put_near (x : Ino) (A : Option Addr) (c : Nat) (w : World) (hS : Shapes w) (hr : (Kd.int .i64).C w A x.blocks.length x.blocks) (hc : x.blocks.length ≤ c) (hm : mayB x = true) (h6 : blocksP x.kind x.size ≤ 6) :
    Calls Tryd.prog 12 #[.agg #[.int .i64 x.kind, .int .i64 x.mode, .int .i64 x.size, .slice A x.blocks.length c, .int .i64 x.more]] w (PutPost x w) := by
  have hask := asked x
  rw [hm] at hask
  have hask := hask.resolve_left (fun h => by simp at h)
  obtain ⟨_, a0, a1, a2, a3, a4, a5, a6⟩ := hask
  obtain ⟨m1, m2, m3, _, _, m4⟩ := mayB_parts hm
  have m5 := mayB_more hm
  obtain ⟨k1, k2, k3, k4⟩ := blocksP_kind m1
  have hnl := blocksP_range x.kind x.size
  have HPN := Lib.hid (show putNode x = (nodeBytes x, moreBytes x, 0) by unfold putNode; rw [hm]; rfl)
  have HM3 := Lib.hid m3
  have HM2 := Lib.hid m2
  clear hm
  obtain ⟨W0, hW0⟩ : ∃ W0, w.alloc (.cells #[.int .i64 x.kind, .int .i64 x.mode, .int .i64 x.size, .slice A x.blocks.length c, .int .i64 x.more] 32) = W0 := ⟨_, rfl⟩
  have hB0 : Below w.heap.size w W0 := by rw [← hW0]; exact below_alloc (Below.refl _ _) _
  have s0 : w.heap.size < W0.heap.size := by rw [← hW0]; simp
  have x0 : boxIs W0 w.heap.size x A c := by rw [← hW0]; exact blk_new _ _
  have HX := Lib.hid x0
  have HS := Lib.hid (hS.below hB0)
  have HR := Lib.hid (Kd.C_below hr hB0)
  have HB0 := Lib.hid hB0
  obtain ⟨c0, c1, c2, c3, c4⟩ := x0.cells
  have HBAD := Lib.hid (containsFunc_int A c x.blocks (fun b => !blockB b) 44 #[] W0 enters_put1 HR.out (fun b _ W _ => put1_any b W))
  have HBL := Lib.hid (blocks_any x.kind x.size W0 HS.out)
  have HMO := Lib.hid (fun W => lblock_any x.more W)
  have d0 : decide (blocksP x.kind x.size < 0) = false := decide_eq_false (by omega)
  have d3 : decide (x.mode < 0) = false := decide_eq_false (by omega)
  have d4 : decide (4095 < x.mode) = false := decide_eq_false (by omega)
  have d6 : decide (6 < blocksP x.kind x.size) = false := decide_eq_false (by omega)
  have a7 : (x.more != 0) = false := (a6.resolve_left (by omega)).2
  rw [d6] at a5
  clear hS hr x0 hB0 m1 m2 m3 m4 a6
  generalize hn : blocksP x.kind x.size = n at *
  generalize (x.blocks.any fun b => !blockB b) = bad at *
  generalize blockB x.more = bm at *
  obtain rfl : bm = false := by simpa using a5
  clear a5
  clear hn
  have hnn := HM2.out
  clear HM2
  subst hnn
  have hlen : x.blocks.length ≤ 38 := by omega
  have hlc : (x.blocks.length : Int) ≤ (c : Int) := by omega
  go_enter Tryd.func12, Tryd.ntmps12
  go_wp2_with fail
  refine HBL.out.mono ?_
  rintro e w1 ⟨rfl, rfl⟩
  go_wp2_with fail
  refine HBAD.out.mono ?_
  rintro e w2 ⟨rfl, hb2⟩
  rw [a2]
  have e1 := pw_cell_below hb2 c1
  have e3 := pw_cell_below hb2 c3
  have e4 := pw_cell_below hb2 c4
  go_wp2_with fail
  refine (HMO.out _).mono ?_
  rintro e w3 ⟨rfl, hb3⟩
  have hb3' := below_step hb2 hb3
  have hbox3 : boxIs w3 w.heap.size x A c := blk_below HX.out hb3'
  obtain ⟨p0, p1, p2, p3, p4⟩ := hbox3.cells
  obtain ⟨W4, hmk, hblk4, hB4, hs4⟩ := made_bytes 32 (by omega) w3
  have HBOX3 := Lib.hid hbox3
  have HB03 := Lib.hid hb3'
  have h32 : ((32 : Nat) : Int) = 32 := rfl
  rw [h32] at hmk
  have s3 : w.heap.size < w3.heap.size := by have := hb3'.size; omega
  have g0 := (hblk4.cell 0 (by simp))
  have g1 := hblk4.frozen 0
  obtain ⟨q0, q1, q2, q3, q4⟩ := (show boxIs W4 w.heap.size x A c from blk_below hbox3 hB4).cells
  have HBLK4 := Lib.hid hblk4
  clear hblk4 hbox3
  go_wp2_with fail
  have hk256 : (List.replicate 32 (0 : Int)).set 0 x.kind = padTo [x.kind % 256] 32 := by rw [show x.kind % 256 = x.kind by omega]; rfl
  obtain ⟨W5, hW5⟩ : ∃ W5, (W4.setCell ⟨w3.heap.size, 0, none⟩ (.int .u8 x.kind)).alloc (.cells #[.int .i64 x.mode, .int .i64 x.size, .int .i64 x.more] 3) = W5 := ⟨_, rfl⟩
  have hb5 : blkIs W5 w3.heap.size (padTo [x.kind % 256] 32) := by rw [← hW5, ← hk256]; exact blk_alloc (HBLK4.out.set 0 x.kind) _
  have hl5 : W5.heap[W4.heap.size]? = some (.cells #[.int .i64 x.mode, .int .i64 x.size, .int .i64 x.more] 3 (0, 0)) := by
    rw [← hW5]
    have := blk_new (W4.setCell ⟨w3.heap.size, 0, none⟩ (.int .u8 x.kind)) (.cells #[.int .i64 x.mode, .int .i64 x.size, .int .i64 x.more] 3)
    simpa using this
  have hB5 : Below w3.heap.size w3 W5 := by
    rw [← hW5]
    exact below_alloc (below_set hB4 (Nat.le_refl _)) _
  rw [hW5]
  clear hW5 hk256 p0 p1 p2 p3 p4 q0 q1 q2 q3 q4 g0 g1 e1 e3 e4 hmk c0 c1 c2 c3 c4
  have l0 : W5.cell? ⟨W4.heap.size, 0, none⟩ = some (.int .i64 x.mode) := (blk_cell hl5 0).trans rfl
  refine wp_loop_rounds 4 ?_
  rw [rounds_succ]
  go_wp2_with fail
  refine (number_list w3.heap.size 1 31 31 x.mode _ W5 hb5 (by simp [padTo]) (by omega) (by omega) (by omega)).mono ?_
  rintro e w6 ⟨rfl, hb6, hg6⟩
  rw [put2_pad [x.kind % 256] 32 1 x.mode rfl (by omega)] at hb6
  have hl6 := blk_grown hl5 hg6 (fun e => by have := Option.some.inj e; omega)
  have l1 : w6.cell? ⟨W4.heap.size, 1, none⟩ = some (.int .i64 x.size) := (blk_cell hl6 1).trans rfl
  go_wp2_with fail
  rw [rounds_succ]
  go_wp2_with fail
  refine (number_list w3.heap.size 3 29 29 x.size _ w6 hb6 (by simp [padTo, two]) (by omega) (by omega) (by omega)).mono ?_
  rintro e w7 ⟨rfl, hb7, hg7⟩
  rw [put2_pad ([x.kind % 256] ++ two x.mode) 32 3 x.size rfl (by omega)] at hb7
  have hl7 := blk_grown hl6 hg7 (fun e => by have := Option.some.inj e; omega)
  have l2 : w7.cell? ⟨W4.heap.size, 2, none⟩ = some (.int .i64 x.more) := (blk_cell hl7 2).trans rfl
  go_wp2_with fail
  rw [rounds_succ]
  go_wp2_with fail
  refine (number_list w3.heap.size 5 27 27 x.more _ w7 hb7 (by simp [padTo, two]) (by omega) (by omega) (by omega)).mono ?_
  rintro e w8 ⟨rfl, hb8, hg8⟩
  rw [put2_pad ([x.kind % 256] ++ two x.mode ++ two x.size) 32 5 x.more rfl (by omega)] at hb8
  have hB8 : Below w3.heap.size w3 w8 := ((hB5.grown hg6 hB5.size (fun k hk => by have := Option.some.inj hk; omega)).grown hg7 (by have := hB5.size; have := hg6.size; omega) (fun k hk => by have := Option.some.inj hk; omega)).grown hg8 (by have := hB5.size; have := hg6.size; have := hg7.size; omega) (fun k hk => by have := Option.some.inj hk; omega)
  have hbox8 : boxIs w8 w.heap.size x A c := blk_below HBOX3.out hB8
  have HB08 := Lib.hid (below_step hb3' hB8)
  obtain ⟨p0, p1, p2, p3, p4⟩ := hbox8.cells
  have HB8 := Lib.hid (show blkIs w8 w3.heap.size (padTo (headBytes x ++ twos (x.blocks.take 0)) 32) by rw [List.take_zero]; simpa [headBytes, twos] using hb8)
  have HBX8 := Lib.hid hbox8
  have hs8 := hB8.size
  clear hl5 hl6 hl7 l0 l1 l2 hb5 hb6 hb7 hb8 hg6 hg7 hg8 hB5 hB8 hbox8 hb2 hb3 hb3' hB4
  go_wp2_with fail
  rw [rounds_succ]
  go_wp2_with fail
  clear p0 p1 p2 p3 p4
  have hgw : w1.heap.size ≤ w3.heap.size := by have := HB03.out.size; omega
  go_loopw [95] (fun i wr => ∃ k : Nat, k ≤ x.blocks.length ∧ i = .int .i64 k ∧ blkIs wr w3.heap.size (padTo (headBytes x ++ twos (x.blocks.take k)) 32) ∧ Below w1.heap.size w1 wr) (fun i _ => x.blocks.length - (intOf i).toNat)
  case atStart => exact ⟨0, Nat.zero_le _, rfl, HB8.out, HB08.out⟩
  case round =>
    obtain ⟨k, hk, rfl, hblk, hbw⟩ := hrel
    by_cases hlt : k < x.blocks.length
    · have hd : decide ((k : Int) < (x.blocks.length : Int)) = true := decide_eq_true (by omega)
      obtain ⟨ad, rfl, hcell⟩ := int_at (Kd.C_below HR.out hbw) k hlt
      have hv := HM3.out x.blocks[k] (List.getElem_mem hlt)
      have HT := Lib.hid (show twos (x.blocks.take (k + 1)) = twos (x.blocks.take k) ++ two x.blocks[k] by rw [List.take_succ_eq_append_getElem hlt, twos_snoc])
      have HL := Lib.hid (show (headBytes x ++ twos (x.blocks.take k)).length = 7 + 2 * k by rw [List.length_append, twos_length, head_length, List.length_take]; omega)
      generalize x.blocks[k] = v at *
      have HBK := Lib.hid hblk
      clear hblk
      go_wp2_with fail
      have hp : ∀ l, (padTo (headBytes x ++ l) 32).length = 7 + l.length + (32 - (7 + l.length)) := fun l => by simp [padTo, head_length]; omega
      refine (number_list w3.heap.size (7 + 2 * k) _ _ v _ wr HBK.out (by rw [hp]; have := HL.out; rw [List.length_append, head_length] at this; omega) (by omega) (by omega) (by omega)).mono ?_
      rintro e w9 ⟨rfl, hb9, hg9⟩
      rw [put2_pad _ 32 (7 + 2 * k) v HL.out (by omega), List.append_assoc, ← HT.out] at hb9
      have hB9 := hbw.grown hg9 hbw.size (fun j hj => by have := Option.some.inj hj; omega)
      have HB9 := Lib.hid hb9
      clear hb9 hp
      go_wp2
      go_roundw
      case rel => exact ⟨k + 1, by omega, by go_num, HB9.out, hB9⟩
      case measure => simp [intOf]; omega
    · obtain rfl : k = x.blocks.length := by omega
      have hd : decide ((x.blocks.length : Int) < (x.blocks.length : Int)) = false := decide_eq_false (by omega)
      rw [List.take_length] at hblk
      have HBK := Lib.hid hblk
      clear hblk
      go_wp2
      go_ret3
      unfold PutPost
      rw [HPN.out]
      have hnb : blkIs wr w3.heap.size (nodeBytes x) := by unfold nodeBytes; rw [List.take_of_length_le (by omega)]; exact HBK.out
      have hmb : moreBytes x = [] := by unfold moreBytes; rw [if_neg (by omega)]
      refine ⟨_, _, rfl, ?_, by rw [hmb]; exact Kd.R_nil _ _ _ _ _, below_step HB0.out hbw⟩
      have := hnb.own (base := w.heap.size) (ok := fun j => w.heap.size ≤ j) (by omega) (by rw [node_length]; omega) (by omega)
      rw [node_length] at this
      exact this
end Go.Proofs.YtmjmcmohicjfkaaDoor.lay
