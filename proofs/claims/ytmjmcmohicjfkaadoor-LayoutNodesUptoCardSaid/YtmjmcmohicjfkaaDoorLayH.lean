import Derived.Test.YtmjmcmohicjfkaaDoorLayG
import Derived.Test.YtmjmcmohicjfkaaDoorCp
import Derived.Test.YtmjmcmohicjfkaaDoorRegC
/-
  Layout: PutNode; Clone, Repeat, taken, Cost.
-/
namespace Go.Proofs.YtmjmcmohicjfkaaDoor.lay
open Go.RowKit Go.Proofs.YtmjmcmohicjfkaaDoorW.PrintWords Go.Proofs.YtmjmcmohicjfkaaDoorW.PrintMore Go.Proofs.YtmjmcmohicjfkaaDoor.PLayoutTakes Go.Proofs.YtmjmcmohicjfkaaDoor.tab
attribute [local go_sem] max2_int min2_int max_two min_two

theorem put_any (x : Ino) (A : Option Addr) (c : Nat) (w : World) (hS : Shapes w) (hr : (Kd.int .i64).C w A x.blocks.length x.blocks) (hc : x.blocks.length ≤ c) :
    Calls Tryd.prog 12 #[.agg #[.int .i64 x.kind, .int .i64 x.mode, .int .i64 x.size, .slice A x.blocks.length c, .int .i64 x.more]] w (PutPost x w) := by
  cases hm : mayB x with
  | false => exact put_no x A c w hS hr hm
  | true =>
    by_cases h6 : blocksP x.kind x.size ≤ 6
    · exact put_near x A c w hS hr hc hm h6
    · exact put_far x A c w hS hr hc hm (by omega)

/-! ### numbers in a row of one's own -/
theorem int_read {W : World} {b : Nat} {ok : Nat → Prop} {B : Option Addr} {n cc : Nat} {l : List Int} {k : IntKind} {e : Nat} (h : (Kd.int k).R e W b ok (.slice B n cc) l) : n = l.length ∧ n ≤ cc ∧ (Kd.int k).C W B n l := by
  obtain ⟨h1, h2, h3⟩ := Kd.R_reads' h
  exact ⟨h1, h2, by rw [h1]; exact h3⟩
theorem clone_any (l : List Int) (A : Option Addr) (c : Nat) (w : World) (hl : l.length ≤ 1000) (v : Value) {b : Nat} {ok : Nat → Prop} (hv : v = .slice A l.length c) (h : (Kd.int .i64).R 3 w b ok v l) :
    Calls Tryd.prog 51 #[v] w fun e w' => ∃ v', e = .returned v' ∧ (Kd.int .i64).R 3 w' w.heap.size (fun k => w.heap.size ≤ k) v' l ∧ Below w.heap.size w w' := by
  subst hv
  have ho := Kd.own_of_R (enc := Value.int .i64) (h1 := fun _ => rfl) h
  have hC := (int_read h).2.2
  rcases ho.2 with ⟨e, h0⟩ | ⟨g, cap, cur, e, _⟩
  · injection e with e1 e2 e3
    subst e1; subst e3
    rw [e2]
    have : l = [] := List.eq_nil_of_length_eq_zero h0
    subst this
    exact (Tryd.slices_Clone_int_nil 0 0 w).mono fun e w' ⟨he, hw⟩ => ⟨_, he, by rw [hw]; exact Kd.R_nil _ _ _ _ _, by rw [hw]; exact Below.refl _ _⟩
  · injection e with e1 e2 e3
    subst e1; subst e3
    refine (Tryd.slices_Clone_int g 0 l.length c l w (Nat.le_refl _) (by omega) (fun j hj => ?_)).mono fun e w' ⟨v', he, hown, _, hb⟩ => ⟨v', he, ?_, hb⟩
    · obtain ⟨ad, e, hc⟩ := int_at hC j hj
      obtain rfl := Option.some.inj e
      rw [kb.add_plain'] at hc
      rw [hc]
      simp [List.getD_eq_getElem?_getD, List.getElem?_eq_getElem hj]
    · rw [List.take_length] at hown
      exact Kd.R_of_own (enc := Value.int .i64) (h1 := fun _ => rfl) hown (fun k hk => own_base hown k hk)
/-- Block g holds these numbers, and no others. -/
def numIs (W : World) (g : Nat) (l : List Int) : Prop := W.heap[g]? = some (.cells (l.map (Value.int .i64)).toArray 3 (0, 0))
theorem numIs.own {W : World} {g base : Nat} {l : List Int} {ok : Nat → Prop} (h : numIs W g l) (hb : base ≤ g) (hl : l.length ≤ 9223372036854775807) (hok : ok g) : (Kd.int .i64).R 3 W base ok (.slice (some ⟨g, 0, none⟩) l.length l.length) l := by
  have hml : maxLen = 9223372036854775807 := by decide
  refine Kd.R_of_own (enc := Value.int .i64) (h1 := fun _ => rfl) ⟨by simp [encs], .inr ⟨g, l.length, _, rfl, hb, h, Nat.le_refl _, by omega, by simp, ?_⟩⟩ (fun k hk => ?_)
  · rw [List.toList_toArray, Nat.mul_one, List.take_of_length_le (by simp)]; rfl
  · simp only [Value.ownBlock, Option.some.injEq] at hk
    rw [← hk]; exact hok
theorem made_ints (n : Nat) (hn : n ≤ 1000) (W : World) : ∃ W1, (Instr.makeSlice 30 (.int .i64 (n : Int)) (.int .i64 (n : Int))).run Tryd.prog W = .ok (.slice (some ⟨W.heap.size, 0, none⟩) n n) W1 ∧ numIs W1 W.heap.size (List.replicate n 0) ∧ Below W.heap.size W W1 ∧ W.heap.size < W1.heap.size := by
  refine ⟨_, print_make_of (P := Tryd.prog) 30 3 (.int .i64 0) 8 Tryd.underlying30 (by kernel_rfl) rfl (by decide) n (by omega) W, ?_, below_alloc (Below.refl _ _) _, by simp⟩
  unfold numIs
  have h := blk_new W (.cells (madeCells #[Value.int .i64 0] n) 3)
  rw [h]
  congr 2
  apply Array.toList_inj.1
  apply List.ext_getElem
  · simp [madeCells]
  · intro i h1 h2
    simp [madeCells, Nat.mod_one]
/-- The rounds of Repeat: so many ones, then noughts. -/
def ones (k n : Nat) : List Int := List.replicate k 1 ++ List.replicate (n - k) 0
theorem ones_length {k n : Nat} (h : k ≤ n) : (ones k n).length = n := by simp [ones]; omega
/-- copy of ones behind ones. -/
theorem ones_over {k n m : Nat} (hm : m ≤ k) (h : k + m ≤ n) : cp.over ((ones k n).map (Value.int .i64)) k ((List.replicate m (1 : Int)).map (Value.int .i64)) = (ones (k + m) n).map (Value.int .i64) := by
  unfold cp.over ones
  rw [List.map_append, List.map_append, List.map_replicate, List.map_replicate, List.map_replicate, List.map_replicate, List.map_replicate, List.take_append_of_le_length (by simp), List.take_of_length_le (by simp), List.length_replicate, List.drop_append, List.drop_of_length_le (by simp), List.nil_append, List.length_replicate, List.drop_replicate, List.replicate_append_replicate]
  congr 2
  omega

set_option maxRecDepth 100000 in
set_option maxHeartbeats 4000000 in
theorem repeat_any (g1 m : Nat) (w : World) (hm : m ≤ 32) (h1 : w.cell? ⟨g1, 0, none⟩ = some (.int .i64 1)) :
    Calls Tryd.prog 52 #[.slice (some ⟨g1, 0, none⟩) 1 1, .int .i64 (m : Int)] w fun e w' => ∃ v, e = .returned v ∧ (Kd.int .i64).R 3 w' w.heap.size (fun k => w.heap.size ≤ k) v (List.replicate m 1) ∧ Below w.heap.size w w' := by
  have hsz : (Tryd.prog.info? 3).map (·.size) = some 1 := by kernel_rfl
  have HMU := Lib.hid (Tryd.bits_Mul 1 m (by omega) (by omega) w)
  have e1 : 1 * m / 18446744073709551616 = 0 := by omega
  have e2 : 1 * m % 18446744073709551616 = m := by omega
  rw [e1, e2] at HMU
  obtain ⟨W1, hmk, hnum, hB1, hs1⟩ := made_ints m (by omega) w
  have hlt1 : g1 < w.heap.size := World.block_lt_of_cell? w _ h1
  have h11 := pw_cell_below hB1 h1
  have hd0 : decide ((m : Int) < 0) = false := decide_eq_false (by omega)
  -- the first copy
  have hmin1 : Nat.min 1 m = min 1 m := rfl
  have hcp1 : ∀ ty, (Builtin.copy_ #[30, 30] ty #[.slice (some ⟨w.heap.size, 0, none⟩) m m, .slice (some ⟨g1, 0, none⟩) 1 1]).run Tryd.prog W1 = .ok (goInt (Nat.min 1 m)) (W1.setCells w.heap.size 0 ((List.replicate (min 1 m) (1 : Int)).map (Value.int .i64))) := fun ty =>
    cp.run_copy_blk W1 _ _ ty 3 w.heap.size 0 m m ⟨g1, 0, none⟩ 1 1 1 ((List.replicate (min 1 m) (1 : Int)).map (Value.int .i64)) _ 3 Tryd.underlying30 hsz (by simp [Nat.min_def])
      (fun j v hj => by
        rw [add_plain]
        obtain ⟨hj1, hj2⟩ := List.getElem?_eq_some_iff.1 hj
        simp at hj1 hj2
        obtain rfl : j = 0 := by omega
        rw [← hj2]; exact h11) hnum (by simp; omega) (fun v hv => by simp at hv; rw [hv.2]; rfl)
  have HCP := Lib.hid hcp1
  obtain ⟨cur1, hcur1, hcl1⟩ := cp.setCells_blk ((List.replicate (min 1 m) (1 : Int)).map (Value.int .i64)) 0 W1 _ hnum (by simp; omega)
  have hg1 := cp.setCells_grown (g := w.heap.size) ((List.replicate (min 1 m) (1 : Int)).map (Value.int .i64)) 0 W1
  generalize hW2 : W1.setCells w.heap.size 0 ((List.replicate (min 1 m) (1 : Int)).map (Value.int .i64)) = W2 at *
  have hB2 : Below w.heap.size w W2 := hB1.grown hg1 hB1.size (fun k hk => by have := Option.some.inj hk; omega)
  have hnum2 : numIs W2 w.heap.size (ones (min 1 m) m) := by
    unfold numIs
    rw [hcur1]
    congr 2
    apply Array.toList_inj.1
    rw [hcl1]
    cases m with
    | zero => rfl
    | succ m =>
      rw [show min 1 (m + 1) = 1 by omega]
      simp [cp.over, ones, List.replicate_succ]
  have HN2 := Lib.hid hnum2
  have HB2 := Lib.hid hB2
  have hgo : goInt (Nat.min 1 m) = .int .i64 ((min 1 m : Nat) : Int) := by
    have : Nat.min 1 m = min 1 m := rfl
    rw [this]; rfl
  rw [hgo] at HCP
  generalize hmin : min 1 m = mm at *
  have hmm : mm ≤ m ∧ (0 < m → 1 ≤ mm) := by omega
  clear hcp1 hnum hcur1 hcl1 hg1 hW2 hB1 hB2 hnum2 h1 h11 hgo hmin hmin1 e1 e2
  obtain ⟨hm1, hm2⟩ := hmm
  have HM2 := Lib.hid hm2
  clear hm2
  have hbig : decide ((9223372036854775807 : Int) < (m : Int)) = false := decide_eq_false (by omega)
  go_enter Tryd.func52, Tryd.ntmps52
  go_wp2_with fail
  refine HMU.out.mono ?_
  rintro e w' ⟨rfl, rfl⟩
  go_wp2_with (refine cp.wpList_copy_run _ rfl (.tmp 31) (.tmp 32) 30 30 rfl (.slice (some ⟨w'.heap.size, 0, none⟩) m m) (.slice (some ⟨g1, 0, none⟩) 1 1) (by simp [Act.eval]) (by simp [Act.eval]) (HCP.out _) ?_)
  go_loopw [8] (fun n wr => ∃ k : Nat, mm ≤ k ∧ k ≤ m ∧ n = .int .i64 k ∧ numIs wr w'.heap.size (ones k m) ∧ Below w'.heap.size w' wr) (fun n _ => m - (intOf n).toNat)
  case atStart => exact ⟨mm, Nat.le_refl _, hm1, rfl, HN2.out, HB2.out⟩
  case round =>
    obtain ⟨k, hmk2, hk, rfl, hnum, hbw⟩ := hrel
    by_cases hlt : k < m
    · have hd : decide ((k : Int) < (m : Int)) = true := decide_eq_true (by omega)
      have h1k : 1 ≤ k := by have := HM2.out (by omega); omega
      generalize hg : w'.heap.size = g at *
      have hol := ones_length hk
      have hmn : Nat.min k (m - k) = min k (m - k) := rfl
      have hcp2 : ∀ ty, (Builtin.copy_ #[30, 30] ty #[.slice (some ⟨g, k, none⟩) (m - k) (m - k), .slice (some ⟨g, 0, none⟩) k m]).run Tryd.prog wr.drew = .ok (goInt (Nat.min k (m - k))) (wr.drew.setCells g k ((List.replicate (min k (m - k)) (1 : Int)).map (Value.int .i64))) := fun ty =>
        cp.run_copy_blk wr.drew _ _ ty 3 g k _ _ ⟨g, 0, none⟩ k m 1 ((List.replicate (min k (m - k)) (1 : Int)).map (Value.int .i64)) _ 3 Tryd.underlying30 hsz (by simp [Nat.min_def])
          (fun j v hj => by
            rw [add_plain, blk_cell (w := wr.drew) hnum]
            obtain ⟨hj1, hj2⟩ := List.getElem?_eq_some_iff.1 hj
            simp at hj1 hj2
            rw [← hj2]
            simp [ones, List.getElem?_append, show j < k by omega]) hnum (by simp [hol]; omega) (fun v hv => by simp at hv; rw [hv.2]; rfl)
      have HCP2 := Lib.hid hcp2
      obtain ⟨cur3, hcur3, hcl3⟩ := cp.setCells_blk ((List.replicate (min k (m - k)) (1 : Int)).map (Value.int .i64)) k wr.drew _ hnum (by simp [hol]; omega)
      have hg3 := cp.setCells_grown (g := g) ((List.replicate (min k (m - k)) (1 : Int)).map (Value.int .i64)) k wr.drew
      generalize hW3 : wr.drew.setCells g k ((List.replicate (min k (m - k)) (1 : Int)).map (Value.int .i64)) = W3 at *
      have hB3 : Below g w' W3 := (below_drew hbw).grown hg3 (by have := hbw.size; rw [hg] at this; exact this) (fun j hj => by have := Option.some.inj hj; omega)
      have hnum3 : numIs W3 g (ones (k + min k (m - k)) m) := by
        unfold numIs
        rw [hcur3]
        congr 2
        apply Array.toList_inj.1
        rw [hcl3]
        have := ones_over (k := k) (n := m) (m := min k (m - k)) (by omega) (by omega)
        simpa using this
      have HN3 := Lib.hid hnum3
      have HB3 := Lib.hid hB3
      clear hcp2 hnum hcur3 hcl3 hg3 hW3 hB3 hnum3
      have hgo : goInt (Nat.min k (m - k)) = .int .i64 ((min k (m - k) : Nat) : Int) := by rw [hmn]; rfl
      rw [hgo] at HCP2
      have hmm1 : 1 ≤ min k (m - k) := by omega
      have hmm2 : k + min k (m - k) ≤ m := by omega
      generalize min k (m - k) = q at *
      clear hgo hmn
      go_wp2
      refine reg.region_chain_wp [false, false, false, false, false, false, false, true, true, true] (T := fun _ => True) (by kernel_rfl) rfl (by kernel_rfl) ?_
      dsimp only [reg.splitQ, reg.splitM]
      iterate 7
        apply reg.read_cons
        case h =>
          intro W' hT
          go_wp2
          exact ⟨rfl, _, rfl, rfl, rfl⟩
        try simp only [Act.put, List.setIfInBounds_toArray, List.set_cons_zero, List.set_cons_succ]
      apply reg.read_nil
      refine reg.chain_cons trivial ?_
      refine cp.wpList_copy_run _ rfl (.tmp 41) (.tmp 44) 30 30 rfl (.slice (some ⟨g, k, none⟩) (m - k) (m - k)) (.slice (some ⟨g, 0, none⟩) k m) ?va ?vb (HCP2.out _) ?_
      case va => simp [Act.eval]
      case vb => simp [Act.eval]
      refine ⟨rfl, _, rfl, ?_⟩
      try simp only [Act.put, List.setIfInBounds_toArray, List.set_cons_zero, List.set_cons_succ]
      refine reg.chain_cons trivial ?_
      go_wp2
      refine ⟨rfl, _, rfl, ?_⟩
      try simp only [Act.put, List.setIfInBounds_toArray, List.set_cons_zero, List.set_cons_succ]
      refine reg.chain_cons trivial ?_
      go_wp2
      refine ⟨rfl, _, rfl, ?_⟩
      try simp only [Act.put, List.setIfInBounds_toArray, List.set_cons_zero, List.set_cons_succ]
      apply reg.chain_nil
      go_wp2
      go_roundw
      case rel => exact ⟨k + q, by omega, hmm2, by go_num, HN3.out, HB3.out⟩
      case measure => simp [intOf]; omega
    · obtain rfl : k = m := by omega
      have hd : decide ((k : Int) < (k : Int)) = false := decide_eq_false (by omega)
      have HN3 := Lib.hid hnum
      clear hnum
      go_wp2
      go_ret
      have e : ones k k = List.replicate k 1 := by simp [ones]
      have h := HN3.out
      rw [e] at h
      have h2 := h.own (base := w'.heap.size) (ok := fun j => w'.heap.size ≤ j) (Nat.le_refl _) (by simp; omega) (Nat.le_refl _)
      rw [List.length_replicate] at h2
      exact ⟨_, rfl, h2, hbw⟩
theorem repeat_int (g1 m : Nat) (z : Int) (w : World) (hz : z = (m : Int)) (hm : m ≤ 32) (h1 : w.cell? ⟨g1, 0, none⟩ = some (.int .i64 1)) :
    Calls Tryd.prog 52 #[.slice (some ⟨g1, 0, none⟩) 1 1, .int .i64 z] w fun e w' => ∃ v, e = .returned v ∧ (Kd.int .i64).R 3 w' w.heap.size (fun k => w.heap.size ≤ k) v (List.replicate m 1) ∧ Below w.heap.size w w' := by
  subst hz
  exact repeat_any g1 m w hm h1
end Go.Proofs.YtmjmcmohicjfkaaDoor.lay
