import Derived.Test.YtmjmcmohicjfkaaDoorLayD
/-
  Layout: blocks of bytes; PutNode of what may not be.
-/
namespace Go.Proofs.YtmjmcmohicjfkaaDoor.lay
open Go.RowKit Go.Proofs.YtmjmcmohicjfkaaDoorW.PrintWords Go.Proofs.YtmjmcmohicjfkaaDoor.PLayoutTakes Go.Proofs.YtmjmcmohicjfkaaDoor.tab

/-- Block g holds these bytes, and no others. -/
def blkIs (W : World) (g : Nat) (l : List Int) : Prop := W.heap[g]? = some (.cells (byt l).toArray 5 (0, 0))
theorem byt_length (l : List Int) : (byt l).length = l.length := by simp [byt]
theorem byt_set (l : List Int) (o : Nat) (v : Int) : (byt l).toArray.setIfInBounds o (.int .u8 v) = (byt (l.set o v)).toArray := by
  unfold byt
  rw [List.map_set]
  simp
theorem blkIs.set {W : World} {g : Nat} {l : List Int} (h : blkIs W g l) (o : Nat) (v : Int) : blkIs (W.setCell ⟨g, o, none⟩ (.int .u8 v)) g (l.set o v) :=
  blk_put h o (.int .u8 v) (byt_set l o v)
theorem blkIs.cell {W : World} {g : Nat} {l : List Int} (h : blkIs W g l) (o : Nat) (ho : o < l.length) : W.cell? ⟨g, o, none⟩ = some (.int .u8 l[o]) := by
  refine (blk_cell h o).trans ?_
  simp [byt, ho]
theorem blkIs.frozen {W : World} {g : Nat} {l : List Int} (h : blkIs W g l) (o : Nat) : W.frozen? ⟨g, o, none⟩ = false := blk_frozen h o
theorem blkIs.below {W W1 : World} {g : Nat} {l : List Int} (h : blkIs W g l) (hb : Below W.heap.size W W1) : blkIs W1 g l := blk_below h hb
theorem blkIs.grown {W W1 : World} {g : Nat} {l : List Int} {row : Option Nat} (h : blkIs W g l) (hg : W.grownBy W1 row) (hne : some g ≠ row) : blkIs W1 g l := blk_grown h hg hne
theorem blkIs.own {W : World} {g base : Nat} {l : List Int} {ok : Nat → Prop} (h : blkIs W g l) (hb : base ≤ g) (hl : l.length ≤ 9223372036854775807) (hok : ok g) : (Kd.int .u8).R 5 W base ok (.slice (some ⟨g, 0, none⟩) l.length l.length) l := by
  have hml : maxLen = 9223372036854775807 := by decide
  refine Kd.R_of_own (enc := Value.int .u8) (h1 := fun _ => rfl) ⟨by simp [encs], .inr ⟨g, l.length, _, rfl, hb, h, Nat.le_refl _, by omega, by simp [byt], ?_⟩⟩ (fun k hk => ?_)
  · rw [List.toList_toArray, Nat.mul_one, List.take_of_length_le (by simp [byt])]; rfl
  · simp only [Value.ownBlock, Option.some.injEq] at hk
    rw [← hk]; exact hok
theorem grown_set (W : World) (g o : Nat) (v : Value) : W.grownBy (W.setCell ⟨g, o, none⟩ v) (some g) :=
  ⟨rfl, rfl, rfl, by simp [World.setCell], fun k _ hne => Below.heap_setCell W ⟨g, o, none⟩ v k (fun e => hne (by rw [e]))⟩
def put2 (l : List Int) (o : Nat) (v : Int) : List Int := (l.set o (v / 256 % 256)).set (o + 1) (v % 256)
theorem number_list (g o n c : Nat) (v : Int) (l : List Int) (w : World) (hb : blkIs w g l) (ho : o + 2 ≤ l.length) (hn : 2 ≤ n) (hv0 : 0 ≤ v) (hv1 : v ≤ 65535) :
    Calls Tryd.prog 46 #[.slice (some ⟨g, o, none⟩) n c, .int .i64 v] w fun e w' => e = .returned (.tuple #[]) ∧ blkIs w' g (put2 l o v) ∧ w.grownBy w' (some g) := by
  refine (number_blk g o n c v _ w hb (by simp [byt]; exact ho) hn hv0 hv1).mono fun e w' ⟨he, hw⟩ => ⟨he, ?_, ?_⟩
  · rw [hw]; exact (hb.set o _).set (o + 1) _
  · rw [hw]; exact (grown_set _ g o _).trans (grown_set _ g (o + 1) _)
theorem put2_pad (L : List Int) (N o : Nat) (v : Int) (ho : L.length = o) (hN : o + 2 ≤ N) : put2 (padTo L N) o v = padTo (L ++ two v) N := by
  subst ho
  obtain ⟨d, hd⟩ : ∃ d, N - L.length = d + 2 := ⟨N - L.length - 2, by omega⟩
  unfold put2 padTo two
  have e : N - (L ++ [v / 256 % 256, v % 256]).length = d := by simp; omega
  rw [e, hd, List.replicate_succ, List.replicate_succ, List.set_append_right _ _ (Nat.le_refl _), Nat.sub_self, List.set_cons_zero, List.set_append_right _ _ (by omega)]
  have e2 : L.length + 1 - L.length = 1 := by omega
  rw [e2]
  simp

theorem putNode_no (x : Ino) (h : mayB x = false) : putNode x = ([], [], 1) := by unfold putNode; rw [h]; rfl
/-- What is asked, one behind the other. -/
theorem asked (x : Ino) : (mayB x = false ∧ (blocksP x.kind x.size < 0 ∨
      (0 ≤ blocksP x.kind x.size ∧ (blocksP x.kind x.size != (x.blocks.length : Int)) = true) ∨
      (0 ≤ blocksP x.kind x.size ∧ (blocksP x.kind x.size != (x.blocks.length : Int)) = false ∧ (x.blocks.any fun b => !blockB b) = true) ∨
      (0 ≤ blocksP x.kind x.size ∧ (blocksP x.kind x.size != (x.blocks.length : Int)) = false ∧ (x.blocks.any fun b => !blockB b) = false ∧ x.mode < 0) ∨
      (0 ≤ blocksP x.kind x.size ∧ (blocksP x.kind x.size != (x.blocks.length : Int)) = false ∧ (x.blocks.any fun b => !blockB b) = false ∧ 0 ≤ x.mode ∧ 4095 < x.mode) ∨
      (0 ≤ blocksP x.kind x.size ∧ (blocksP x.kind x.size != (x.blocks.length : Int)) = false ∧ (x.blocks.any fun b => !blockB b) = false ∧ 0 ≤ x.mode ∧ x.mode ≤ 4095 ∧ (decide (6 < blocksP x.kind x.size) != blockB x.more) = true) ∨
      (0 ≤ blocksP x.kind x.size ∧ (blocksP x.kind x.size != (x.blocks.length : Int)) = false ∧ (x.blocks.any fun b => !blockB b) = false ∧ 0 ≤ x.mode ∧ x.mode ≤ 4095 ∧ (decide (6 < blocksP x.kind x.size) != blockB x.more) = false ∧ blocksP x.kind x.size ≤ 6 ∧ (x.more != 0) = true))) ∨
    (mayB x = true ∧ 0 ≤ blocksP x.kind x.size ∧ (blocksP x.kind x.size != (x.blocks.length : Int)) = false ∧ (x.blocks.any fun b => !blockB b) = false ∧ 0 ≤ x.mode ∧ x.mode ≤ 4095 ∧ (decide (6 < blocksP x.kind x.size) != blockB x.more) = false ∧ (6 < blocksP x.kind x.size ∨ (blocksP x.kind x.size ≤ 6 ∧ (x.more != 0) = false))) := by
  have hall : x.blocks.all blockB = !(x.blocks.any fun b => !blockB b) := by rw [List.not_any_eq_all_not]; congr 1; funext b; simp
  have hb0 : blockB 0 = false := rfl
  have hmay : mayB x = (decide (0 ≤ blocksP x.kind x.size) && decide (blocksP x.kind x.size = (x.blocks.length : Int)) && !(x.blocks.any fun b => !blockB b) && decide (0 ≤ x.mode) && decide (x.mode ≤ 4095) && (if 6 < blocksP x.kind x.size then blockB x.more else decide (x.more = 0))) := by unfold mayB; rw [hall]
  rw [hmay]
  clear hmay hall
  generalize blocksP x.kind x.size = n
  generalize (x.blocks.length : Int) = m
  generalize (x.blocks.any fun b => !blockB b) = bad
  generalize x.mode = mo
  generalize x.more = r at *
  by_cases h1 : n < 0
  · left; refine ⟨?_, .inl h1⟩
    have : decide (0 ≤ n) = false := by simp; omega
    rw [this]; rfl
  · have e1 : decide (0 ≤ n) = true := by simp; omega
    rw [e1, Bool.true_and]
    by_cases h2 : n = m
    · have e2 : decide (n = m) = true := decide_eq_true h2
      have f2 : (n != m) = false := by simp [h2]
      rw [e2, Bool.true_and, f2]
      cases bad with
      | true => left; exact ⟨by simp, .inr (.inr (.inl ⟨by omega, rfl, rfl⟩))⟩
      | false =>
        rw [Bool.not_false, Bool.true_and]
        by_cases h3 : mo < 0
        · left; refine ⟨?_, .inr (.inr (.inr (.inl ⟨by omega, rfl, rfl, h3⟩)))⟩
          have : decide (0 ≤ mo) = false := by simp; omega
          rw [this]; rfl
        · have e3 : decide (0 ≤ mo) = true := by simp; omega
          rw [e3, Bool.true_and]
          by_cases h4 : 4095 < mo
          · left; refine ⟨?_, .inr (.inr (.inr (.inr (.inl ⟨by omega, rfl, rfl, by omega, h4⟩))))⟩
            have : decide (mo ≤ 4095) = false := by simp; omega
            rw [this]; rfl
          · have e4 : decide (mo ≤ 4095) = true := by simp; omega
            rw [e4, Bool.true_and]
            by_cases h6 : 6 < n
            · have d6 : decide (6 < n) = true := decide_eq_true h6
              rw [if_pos h6, d6]
              cases hr : blockB r with
              | true => right; exact ⟨rfl, by omega, rfl, rfl, by omega, by omega, rfl, .inl h6⟩
              | false => left; exact ⟨rfl, .inr (.inr (.inr (.inr (.inr (.inl ⟨by omega, rfl, rfl, by omega, by omega, rfl⟩)))))⟩
            · have d6 : decide (6 < n) = false := decide_eq_false h6
              rw [if_neg h6, d6]
              cases hr : blockB r with
              | true =>
                left
                refine ⟨?_, .inr (.inr (.inr (.inr (.inr (.inl ⟨by omega, rfl, rfl, by omega, by omega, rfl⟩)))))⟩
                rw [decide_eq_false_iff_not]
                rintro rfl
                rw [hb0] at hr; cases hr
              | false =>
                by_cases h7 : r = 0
                · right; exact ⟨decide_eq_true h7, by omega, rfl, rfl, by omega, by omega, rfl, .inr ⟨by omega, by simp [h7]⟩⟩
                · left; exact ⟨decide_eq_false h7, .inr (.inr (.inr (.inr (.inr (.inr ⟨by omega, rfl, rfl, by omega, by omega, rfl, by omega, by simpa using h7⟩)))))⟩
    · left; refine ⟨?_, .inr (.inl ⟨by omega, by simpa using h2⟩)⟩
      have : decide (n = m) = false := decide_eq_false h2
      rw [this]; rfl

/-- The words of the promise. -/
def PutPost (x : Ino) (w : World) (e : Ending) (w' : World) : Prop := ∃ v0 v1, e = .returned (.tuple #[v0, v1, .int .i64 (putNode x).2.2]) ∧
  (Kd.int .u8).R 5 w' w.heap.size (fun k => w.heap.size ≤ k) v0 (putNode x).1 ∧ (Kd.int .u8).R 5 w' w.heap.size (fun k => w.heap.size ≤ k) v1 (putNode x).2.1 ∧ Below w.heap.size w w'
set_option maxRecDepth 100000 in
set_option maxHeartbeats 4000000 in
theorem put_no (x : Ino) (A : Option Addr) (c : Nat) (w : World) (hS : Shapes w) (hr : (Kd.int .i64).C w A x.blocks.length x.blocks) (hm : mayB x = false) :
    Calls Tryd.prog 12 #[.agg #[.int .i64 x.kind, .int .i64 x.mode, .int .i64 x.size, .slice A x.blocks.length c, .int .i64 x.more]] w (PutPost x w) := by
  have hask := asked x
  rw [hm] at hask
  have hask := hask.resolve_right (fun h => by simp at h)
  have hask := hask.2
  have HW := Lib.hid (putNode_no x hm)
  clear hm
  obtain ⟨W0, hW0⟩ : ∃ W0, w.alloc (.cells #[.int .i64 x.kind, .int .i64 x.mode, .int .i64 x.size, .slice A x.blocks.length c, .int .i64 x.more] 32) = W0 := ⟨_, rfl⟩
  have hB0 : Below w.heap.size w W0 := by rw [← hW0]; exact below_alloc (Below.refl _ _) _
  have s0 : W0.heap.size = w.heap.size + 1 := by rw [← hW0]; simp
  have x0 : W0.heap[w.heap.size]? = some (.cells #[.int .i64 x.kind, .int .i64 x.mode, .int .i64 x.size, .slice A x.blocks.length c, .int .i64 x.more] 32 (0, 0)) := by rw [← hW0]; exact blk_new _ _
  have HX := Lib.hid x0
  have HS := Lib.hid (hS.below hB0)
  have HR := Lib.hid (Kd.C_below hr hB0)
  have HB0 := Lib.hid hB0
  have c0 : W0.cell? ⟨w.heap.size, 0, none⟩ = some (.int .i64 x.kind) := (blk_cell x0 0).trans rfl
  have c1 : W0.cell? ⟨w.heap.size, 1, none⟩ = some (.int .i64 x.mode) := (blk_cell x0 1).trans rfl
  have c2 : W0.cell? ⟨w.heap.size, 2, none⟩ = some (.int .i64 x.size) := (blk_cell x0 2).trans rfl
  have c3 : W0.cell? ⟨w.heap.size, 3, none⟩ = some (.slice A x.blocks.length c) := (blk_cell x0 3).trans rfl
  have c4 : W0.cell? ⟨w.heap.size, 4, none⟩ = some (.int .i64 x.more) := (blk_cell x0 4).trans rfl
  have HBAD := Lib.hid (containsFunc_int A c x.blocks (fun b => !blockB b) 44 #[] W0 enters_put1 HR.out (fun b _ W _ => put1_any b W))
  have HBL := Lib.hid (blocks_any x.kind x.size W0 HS.out)
  have HMO := Lib.hid (fun W => lblock_any x.more W)
  clear hS hr x0 hB0
  generalize blocksP x.kind x.size = n at *
  generalize (x.blocks.any fun b => !blockB b) = bad at *
  generalize blockB x.more = bm at *
  have fin : ∀ W', Below W0.heap.size W0 W' → PutPost x w (.returned (.tuple #[.slice none 0 0, .slice none 0 0, .int .i64 1])) W' := fun W' hb => by
    unfold PutPost
    rw [HW.out]
    exact ⟨_, _, rfl, Kd.R_nil _ _ _ _ _, Kd.R_nil _ _ _ _ _, below_step HB0.out hb⟩
  have FIN := Lib.hid fin
  clear fin
  rcases hask with a | ⟨a0, a1⟩ | ⟨a0, a1, a2⟩ | ⟨a0, a1, a2, a3⟩ | ⟨a0, a1, a2, a3, a4⟩ | ⟨a0, a1, a2, a3, a4, a5⟩ | ⟨a0, a1, a2, a3, a4, a5, a6, a7⟩
  · have d0 : decide (n < 0) = true := decide_eq_true a
    have d6 : decide (6 < n) = false := decide_eq_false (by omega)
    go_enter Tryd.func12, Tryd.ntmps12
    go_wp2_with (first
      | (go_at_call 42; refine HBL.out.mono ?_; rintro e w1 ⟨rfl, rfl⟩)
      | (go_at_call 43; refine HBAD.out.mono ?_; rintro e w2 ⟨rfl, hb2⟩; have e1 := pw_cell_below hb2 c1; have e3 := pw_cell_below hb2 c3; have e4 := pw_cell_below hb2 c4)
      | (go_at_call 45; refine (HMO.out _).mono ?_; rintro e w3 ⟨rfl, hb3⟩; have f4 := pw_cell_below hb3 e4; replace hb2 := below_step hb2 hb3))
    all_goals
      go_ret3
      exact FIN.out _ hb2
  · have d0 : decide (n < 0) = false := decide_eq_false (by omega)
    go_enter Tryd.func12, Tryd.ntmps12
    go_wp2_with (first
      | (go_at_call 42; refine HBL.out.mono ?_; rintro e w1 ⟨rfl, rfl⟩)
      | (go_at_call 43; refine HBAD.out.mono ?_; rintro e w2 ⟨rfl, hb2⟩; have e1 := pw_cell_below hb2 c1; have e3 := pw_cell_below hb2 c3; have e4 := pw_cell_below hb2 c4)
      | (go_at_call 45; refine (HMO.out _).mono ?_; rintro e w3 ⟨rfl, hb3⟩; have f4 := pw_cell_below hb3 e4; replace hb2 := below_step hb2 hb3))
    all_goals
      go_ret3
      exact FIN.out _ hb2
  · have d0 : decide (n < 0) = false := decide_eq_false (by omega)
    go_enter Tryd.func12, Tryd.ntmps12
    go_wp2_with (first
      | (go_at_call 42; refine HBL.out.mono ?_; rintro e w1 ⟨rfl, rfl⟩)
      | (go_at_call 43; refine HBAD.out.mono ?_; rintro e w2 ⟨rfl, hb2⟩; have e1 := pw_cell_below hb2 c1; have e3 := pw_cell_below hb2 c3; have e4 := pw_cell_below hb2 c4)
      | (go_at_call 45; refine (HMO.out _).mono ?_; rintro e w3 ⟨rfl, hb3⟩; have f4 := pw_cell_below hb3 e4; replace hb2 := below_step hb2 hb3))
    all_goals
      go_ret3
      exact FIN.out _ hb2
  · have d0 : decide (n < 0) = false := decide_eq_false (by omega)
    have d3 : decide (x.mode < 0) = true := decide_eq_true a3
    go_enter Tryd.func12, Tryd.ntmps12
    go_wp2_with (first
      | (go_at_call 42; refine HBL.out.mono ?_; rintro e w1 ⟨rfl, rfl⟩)
      | (go_at_call 43; refine HBAD.out.mono ?_; rintro e w2 ⟨rfl, hb2⟩; have e1 := pw_cell_below hb2 c1; have e3 := pw_cell_below hb2 c3; have e4 := pw_cell_below hb2 c4)
      | (go_at_call 45; refine (HMO.out _).mono ?_; rintro e w3 ⟨rfl, hb3⟩; have f4 := pw_cell_below hb3 e4; replace hb2 := below_step hb2 hb3))
    all_goals
      go_ret3
      exact FIN.out _ hb2
  · have d0 : decide (n < 0) = false := decide_eq_false (by omega)
    have d3 : decide (x.mode < 0) = false := decide_eq_false (by omega)
    have d4 : decide (4095 < x.mode) = true := decide_eq_true a4
    go_enter Tryd.func12, Tryd.ntmps12
    go_wp2_with (first
      | (go_at_call 42; refine HBL.out.mono ?_; rintro e w1 ⟨rfl, rfl⟩)
      | (go_at_call 43; refine HBAD.out.mono ?_; rintro e w2 ⟨rfl, hb2⟩; have e1 := pw_cell_below hb2 c1; have e3 := pw_cell_below hb2 c3; have e4 := pw_cell_below hb2 c4)
      | (go_at_call 45; refine (HMO.out _).mono ?_; rintro e w3 ⟨rfl, hb3⟩; have f4 := pw_cell_below hb3 e4; replace hb2 := below_step hb2 hb3))
    all_goals
      go_ret3
      exact FIN.out _ hb2
  · have d0 : decide (n < 0) = false := decide_eq_false (by omega)
    have d3 : decide (x.mode < 0) = false := decide_eq_false (by omega)
    have d4 : decide (4095 < x.mode) = false := decide_eq_false (by omega)
    cases d6 : decide (6 < n) <;> rw [d6] at a5 <;> cases bm <;> simp at a5
    all_goals
      go_enter Tryd.func12, Tryd.ntmps12
      go_wp2_with (first
        | (go_at_call 42; refine HBL.out.mono ?_; rintro e w1 ⟨rfl, rfl⟩)
        | (go_at_call 43; refine HBAD.out.mono ?_; rintro e w2 ⟨rfl, hb2⟩; have e1 := pw_cell_below hb2 c1; have e3 := pw_cell_below hb2 c3; have e4 := pw_cell_below hb2 c4)
        | (go_at_call 45; refine (HMO.out _).mono ?_; rintro e w3 ⟨rfl, hb3⟩; have f4 := pw_cell_below hb3 e4; replace hb2 := below_step hb2 hb3))
      all_goals
        go_ret3
        exact FIN.out _ hb2
  · have d0 : decide (n < 0) = false := decide_eq_false (by omega)
    have d3 : decide (x.mode < 0) = false := decide_eq_false (by omega)
    have d4 : decide (4095 < x.mode) = false := decide_eq_false (by omega)
    have d6 : decide (6 < n) = false := decide_eq_false (by omega)
    rw [d6] at a5
    go_enter Tryd.func12, Tryd.ntmps12
    go_wp2_with (first
      | (go_at_call 42; refine HBL.out.mono ?_; rintro e w1 ⟨rfl, rfl⟩)
      | (go_at_call 43; refine HBAD.out.mono ?_; rintro e w2 ⟨rfl, hb2⟩; have e1 := pw_cell_below hb2 c1; have e3 := pw_cell_below hb2 c3; have e4 := pw_cell_below hb2 c4)
      | (go_at_call 45; refine (HMO.out _).mono ?_; rintro e w3 ⟨rfl, hb3⟩; have f4 := pw_cell_below hb3 e4; replace hb2 := below_step hb2 hb3))
    all_goals
      go_ret3
      exact FIN.out _ hb2
end Go.Proofs.YtmjmcmohicjfkaaDoor.lay
