import Derived.Test.YtmjmcmohicjfkaaDoorTabL
/-
  tables.Set.
-/
namespace Go.Proofs.YtmjmcmohicjfkaaDoor.tab
open Go.RowKit Go.Shelf Go.Proofs.YtmjmcmohicjfkaaDoorW.PrintWords

/-- Where a row is laid. -/
def insAt (out : List Row) (key : ByteArray) : Nat := (out.findIdx? fun x => gtB x.f0 key).getD out.length
def setP (l : List Row) (r : Row) : List Row := (dropP l r.f0).take (insAt (dropP l r.f0) r.f0) ++ [r] ++ (dropP l r.f0).drop (insAt (dropP l r.f0) r.f0)
theorem insAt_le (out : List Row) (key : ByteArray) : insAt out key ≤ out.length := by
  unfold insAt
  cases h : out.findIdx? fun x => gtB x.f0 key with
  | none => exact Nat.le_refl _
  | some i =>
    have := (List.findIdx?_eq_some_iff_findIdx_eq.1 h).1
    simp only [Option.getD_some]
    omega
theorem idx_case (out : List Row) (key : ByteArray) : (idxP (fun x : Row => gtB x.f0 key) out = -1 ∧ insAt out key = out.length) ∨ idxP (fun x : Row => gtB x.f0 key) out = (insAt out key : Int) := by
  unfold idxP insAt
  cases out.findIdx? fun x => gtB x.f0 key with
  | none => exact .inl ⟨rfl, rfl⟩
  | some i => exact .inr rfl

set_option maxRecDepth 100000 in
set_option maxHeartbeats 2000000 in
theorem set_own (l : List Row) (r : Row) (A Ar : Option Addr) (c cr : Nat) (w : World) (S : Nat → Prop) (hS : ∀ k, w.heap.size ≤ k → S k) (hr : kRow.C w A l.length l) (hf : FitRows l) (hrc : Kd.string.C w Ar r.f1.length r.f1) (hrn : r.f1.length ≤ 8796093022207) :
    Calls Tryd.prog 23 #[.slice A l.length c, .agg #[.string r.f0, .slice Ar r.f1.length cr]] w fun e w' => ∃ v, e = .returned v ∧ Kd.N (kOwn S) 52 w' w.heap.size (fun k => w.heap.size ≤ k) v (setP l r) ∧ Below w.heap.size w w' := by
  obtain ⟨W0, hW0⟩ : ∃ W0, w.alloc (.cells #[.string r.f0, .slice Ar r.f1.length cr] 52) = W0 := ⟨_, rfl⟩
  have hB0 : Below w.heap.size w W0 := by rw [← hW0]; exact below_alloc (Below.refl _ _) _
  have x0 : W0.heap[w.heap.size]? = some (.cells #[.string r.f0, .slice Ar r.f1.length cr] 52 (0, 0)) := by rw [← hW0]; exact blk_new _ _
  have s0 : W0.heap.size = w.heap.size + 1 := by rw [← hW0]; simp
  have c0 : W0.cell? ⟨w.heap.size, 0, none⟩ = some (.string r.f0) := (blk_cell x0 0).trans rfl
  have c1 : W0.cell? ⟨w.heap.size, 1, none⟩ = some (.slice Ar r.f1.length cr) := (blk_cell x0 1).trans rfl
  have HD := Lib.hid (drop_own l r.f0 A c W0 S (fun k hk => hS k (by omega)) (Kd.C_below hr hB0) hf)
  have HRC := Lib.hid hrc
  have hlen : (dropP l r.f0).length ≤ 1099511627776 := Nat.le_trans (List.length_filter_le _ _) hf.2
  have hset : setP l r = (dropP l r.f0).take (insAt (dropP l r.f0) r.f0) ++ [r] ++ (dropP l r.f0).drop (insAt (dropP l r.f0) r.f0) := rfl
  have HS := Lib.hid hset
  have HSS := Lib.hid hS
  clear hr hf hrc x0 hset hS
  generalize hout : dropP l r.f0 = out at *
  have hcase := idx_case out r.f0
  have hat := insAt_le out r.f0
  generalize hi : insAt out r.f0 = i at *
  generalize hx : idxP (fun x : Row => gtB x.f0 r.f0) out = ix at *
  go_enter Tryd.func23, Tryd.ntmps23
  go_wp2_with (go_at_call 28; refine HD.out.mono ?_; rintro e w1 ⟨v, rfl, hN1, hb1⟩; obtain ⟨A2, c2, rfl⟩ := Kd.N_slice hN1)
  have hC1 := (Kd.N_reads' (N_kRow hN1)).2.2
  have hI := indexFunc_row A2 c2 out (fun x : Row => gtB x.f0 r.f0) 60 #[.pointer (some ⟨w.heap.size, 0, none⟩)] w1 enters_set1 hC1 (fun x A1 c1' W hW _ => set1_any x A1 c1' w.heap.size r.f0 W (pw_cell_below hW (pw_cell_below hb1 c0)))
  rw [hx] at hI
  have hown1 : ∀ k, (Value.slice A2 out.length c2).ownBlock = some k → k < w1.heap.size := fun k hk => Kd.N_lt hN1 k hk
  have HN1 := Lib.hid hN1
  clear hC1 hN1 HD hx
  refine hI.mono ?_
  rintro e w2 ⟨rfl, hb2⟩
  have e0 := pw_cell_below hb2 (pw_cell_below hb1 c0)
  have e1 := pw_cell_below hb2 (pw_cell_below hb1 c1)
  have hB2 := below_step (below_step hB0 hb1) hb2
  have HO := Lib.hid (own_own r Ar cr w2 (Kd.C_below HRC.out hB2) hrn)
  clear hI c0 c1 HRC
  have fin : ∀ w3 B cc, Kd.string.R 9 w3 w2.heap.size (fun k => w2.heap.size ≤ k) (.slice B r.f1.length cc) r.f1 → Below w2.heap.size w2 w3 →
      Calls Tryd.prog 61 #[.slice A2 out.length c2, .int .i64 i, .slice (some ⟨w3.heap.size, 0, none⟩) 1 1] (w3.alloc (.cells #[.string r.f0, .slice B r.f1.length cc] 52)) fun e w' => ∃ A7 n7 c7, e = .returned (.slice A7 n7 c7) ∧ Kd.N (kOwn S) 52 w' w.heap.size (fun k => w.heap.size ≤ k) (.slice A7 n7 c7) (setP l r) ∧ Below w.heap.size w w' := by
    intro w3 B cc hF hb3
    have hN3 := Kd.N_alloc (Kd.N_below (Kd.N_below HN1.out hb2) hb3) (.cells #[.string r.f0, .slice B r.f1.length cc] 52)
    refine (insert_any S W0.heap.size w2.heap.size w3.heap.size i A2 c2 out r (.string r.f0) (.slice B r.f1.length cc) _ hN3 hlen hat (blk_new _ _) rfl rfl (fk_own (Kd.R_alloc hF _) (fun k hk => HSS.out k (by have := hB2.size; omega))) hb3.size (fun k hk => by have := hown1 k hk; have := hb2.size; omega) (by have := hb1.size; have := hb2.size; omega) (by have := hb3.size; simp; omega)).mono ?_
    rintro e w4 ⟨v1, rfl, hN4, hg4⟩
    rw [← HS.out] at hN4
    obtain ⟨A7, c7, rfl⟩ := Kd.N_slice hN4
    refine ⟨A7, _, c7, rfl, Kd.N_mono (Kd.N_lower hN4 (by omega)) (fun k hk => by omega), pw_below_grown (below_alloc (below_step hB2 hb3) _) _ (by have := hB2.size; have := hb3.size; simp; omega) hg4 (fun k hk => by have := Kd.N_base HN1.out k hk; omega)⟩
  have HFIN := Lib.hid fin
  clear fin
  rcases hcase with ⟨rfl, rfl⟩ | rfl
  · go_wp2_with fail
    refine HO.out.mono ?_
    rintro e w3 ⟨B, cc, rfl, hF, hb3⟩
    have HI2 := Lib.hid (HFIN.out w3 B cc hF hb3)
    go_wp2_with (go_at_call 61; refine HI2.out.mono ?_; rintro e w4 ⟨A7, n7, c7, rfl, hN4, hB4⟩)
    go_ret
    exact ⟨_, rfl, hN4, hB4⟩
  · have hd : decide ((i : Int) < 0) = false := decide_eq_false (by omega)
    go_wp2_with fail
    refine HO.out.mono ?_
    rintro e w3 ⟨B, cc, rfl, hF, hb3⟩
    have HI2 := Lib.hid (HFIN.out w3 B cc hF hb3)
    go_wp2_with (go_at_call 61; refine HI2.out.mono ?_; rintro e w4 ⟨A7, n7, c7, rfl, hN4, hB4⟩)
    go_ret
    exact ⟨_, rfl, hN4, hB4⟩
theorem set_any (l : List Row) (r : Row) (A Ar : Option Addr) (c cr : Nat) (w : World) (hr : kRow.C w A l.length l) (hf : FitRows l) (hrc : Kd.string.C w Ar r.f1.length r.f1) (hrn : r.f1.length ≤ 8796093022207) :
    Calls Tryd.prog 23 #[.slice A l.length c, .agg #[.string r.f0, .slice Ar r.f1.length cr]] w fun e w' => ∃ v, e = .returned v ∧ Kd.N kRow 52 w' w.heap.size (fun k => w.heap.size ≤ k) v (setP l r) ∧ Below w.heap.size w w' :=
  (set_own l r A Ar c cr w (fun k => w.heap.size ≤ k) (fun _ h => h) hr hf hrc hrn).mono fun e w' ⟨v, he, hN, hb⟩ => ⟨v, he, N_kRow hN, hb⟩
end Go.Proofs.YtmjmcmohicjfkaaDoor.tab
