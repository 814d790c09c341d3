import Derived.Test.YtmjmcmohicjfkaaDoorTabR
/-
  The reference's Set.
-/
namespace Go.Proofs.YtmjmcmohicjfkaaDoor.tab
open Go.RowKit Go.Shelf Go.Proofs.YtmjmcmohicjfkaaDoorW.PrintWords

/-- What is laid behind k rows. -/
def setTo (rest : List Row) (i : Nat) (r : Row) (k : Nat) : List Row := if k ≤ i then rest.take k else rest.take i ++ [r] ++ (rest.take k).drop i
theorem setTo_len (rest : List Row) (i : Nat) (r : Row) (k : Nat) : (setTo rest i r k).length ≤ k + 1 := by
  unfold setTo
  split
  · simp; omega
  · simp; omega
theorem setTo_zero (rest : List Row) (i : Nat) (r : Row) : setTo rest i r 0 = [] := by simp [setTo]
theorem setTo_lt {rest : List Row} {i k : Nat} (r : Row) (hk : k < rest.length) (h : k < i) : setTo rest i r (k + 1) = setTo rest i r k ++ [rest[k]] := by
  unfold setTo
  rw [if_pos (by omega), if_pos (by omega), List.take_succ_eq_append_getElem hk]
theorem setTo_gt {rest : List Row} {i k : Nat} (r : Row) (hk : k < rest.length) (h : i < k) : setTo rest i r (k + 1) = setTo rest i r k ++ [rest[k]] := by
  unfold setTo
  rw [if_neg (by omega), if_neg (by omega), List.take_succ_eq_append_getElem hk, List.drop_append_of_le_length (by simp; omega), List.append_assoc (rest.take i ++ [r])]
theorem setTo_eq {rest : List Row} {k : Nat} (r : Row) (hk : k < rest.length) : setTo rest k r (k + 1) = setTo rest k r k ++ [r] ++ [rest[k]] := by
  unfold setTo
  rw [if_neg (by omega), if_pos (by omega), List.take_succ_eq_append_getElem hk, List.drop_append_of_le_length (by simp; omega)]
  congr 1
  rw [List.drop_of_length_le (by simp; omega), List.nil_append]
theorem setTo_all {rest : List Row} {i : Nat} (r : Row) (h : i < rest.length) : setTo rest i r rest.length = rest.take i ++ [r] ++ rest.drop i := by
  unfold setTo
  rw [if_neg (by omega), List.take_length]
theorem setTo_end {rest : List Row} (r : Row) : setTo rest rest.length r rest.length ++ [r] = rest.take rest.length ++ [r] ++ rest.drop rest.length := by
  unfold setTo
  rw [if_pos (Nat.le_refl _)]; simp
theorem insAt_gt {rest : List Row} {key : ByteArray} {k : Nat} (hk : k < rest.length) (h : insAt rest key = k) : gtB rest[k].f0 key = true := by
  unfold insAt at h
  cases e : rest.findIdx? fun x => gtB x.f0 key with
  | none => rw [e] at h; simp at h; omega
  | some i =>
    rw [e] at h
    obtain rfl : i = k := h
    exact (List.findIdx?_eq_some_iff_getElem.1 e).2.1
theorem insAt_le' {rest : List Row} {key : ByteArray} {k : Nat} (hk : k < rest.length) (h : k < insAt rest key) : gtB rest[k].f0 key = false := by
  unfold insAt at h
  cases e : rest.findIdx? fun x => gtB x.f0 key with
  | none =>
    rw [List.findIdx?_eq_none_iff] at e
    simpa using e _ (List.getElem_mem hk)
  | some i =>
    rw [e] at h
    simpa using (List.findIdx?_eq_some_iff_getElem.1 e).2.2 k h

set_option maxRecDepth 100000 in
set_option maxHeartbeats 4000000 in
theorem refSet_any (l : List Row) (r : Row) (A Ar : Option Addr) (c cr : Nat) (w : World) (hr : kRow.C w A l.length l) (hf : l.length ≤ 1099511627776) (hrc : Kd.string.C w Ar r.f1.length r.f1) (hcr : r.f1.length ≤ cr) :
    Calls Tryd.prog 27 #[.slice A l.length c, .agg #[.string r.f0, .slice Ar r.f1.length cr]] w fun e w' => ∃ v, e = .returned v ∧ Kd.N kRow 52 w' w.heap.size (fun _ => True) v (setP l r) ∧ Below w.heap.size w w' := by
  obtain ⟨W0, hW0⟩ : ∃ W0, w.alloc (.cells #[.string r.f0, .slice Ar r.f1.length cr] 52) = W0 := ⟨_, rfl⟩
  have hB0 : Below w.heap.size w W0 := by rw [← hW0]; exact below_alloc (Below.refl _ _) _
  have s0 : W0.heap.size = w.heap.size + 1 := by rw [← hW0]; simp
  have x0 : W0.heap[w.heap.size]? = some (.cells #[.string r.f0, .slice Ar r.f1.length cr] 52 (0, 0)) := by rw [← hW0]; exact blk_new _ _
  have HX := Lib.hid x0
  have HD := Lib.hid (refDrop_any l r.f0 A c W0 (Kd.C_below hr hB0) hf)
  have hFr : Kd.FK kRow w (fun k => k < w.heap.size) r [.string r.f0, .slice Ar r.f1.length cr] := fk_row' hcr (Kd.C_F Kd.heap_string hrc)
  have HFR := Lib.hid hFr
  have hlen : (dropP l r.f0).length ≤ 1099511627776 := Nat.le_trans (List.length_filter_le _ _) hf
  have HSET := Lib.hid (show setP l r = (dropP l r.f0).take (insAt (dropP l r.f0) r.f0) ++ [r] ++ (dropP l r.f0).drop (insAt (dropP l r.f0) r.f0) from rfl)
  clear hr hf hrc x0 hFr
  generalize hout : dropP l r.f0 = rest at *
  have hat := insAt_le rest r.f0
  have HI := Lib.hid (fun k (hk : k < rest.length) (h : insAt rest r.f0 = k) => insAt_gt hk h)
  have HI2 := Lib.hid (fun k (hk : k < rest.length) (h : k < insAt rest r.f0) => insAt_le' hk h)
  generalize hi : insAt rest r.f0 = i at *
  have c0 : W0.cell? ⟨w.heap.size, 0, none⟩ = some (.string r.f0) := (blk_cell HX.out 0).trans rfl
  clear hout hi
  go_enter Tryd.func27, Tryd.ntmps27
  go_wp2_with (go_at_call 29; refine HD.out.mono ?_; rintro e w1 ⟨v, rfl, hN1, hb1⟩; obtain ⟨A2, c2, rfl⟩ := Kd.N_slice hN1)
  have hlt1 := hb1.size
  have HB1 := Lib.hid (below_step hB0 hb1)
  have HX1 := Lib.hid (blk_below HX.out hb1)
  have HR1 := Lib.hid (Kd.N_bound hN1)
  have hrow1 : ∀ j, (Value.slice A2 rest.length c2).ownBlock = some j → j < w1.heap.size := fun j hj => Kd.N_lt hN1 j hj
  clear hN1 hb1 c0
  go_loopw [5, 6, 8] (fun v q j wr => ∃ k : Nat, k ≤ rest.length ∧ j = .int .i64 k ∧ q = .bool (decide (i < k)) ∧ Kd.N kRow 52 wr w1.heap.size (fun _ => True) v (setTo rest i r k) ∧ Below w1.heap.size w1 wr) (fun _ _ j _ => rest.length - (intOf j).toNat)
  case atStart => exact ⟨0, Nat.zero_le _, rfl, by simp, by rw [setTo_zero]; exact Kd.N_nil _ _ _ _ _, Below.refl _ _⟩
  case round =>
    obtain ⟨k, hk, rfl, rfl, hN, hb⟩ := hrel
    have hlen2 := setTo_len rest i r k
    obtain ⟨A3, c3, rfl⟩ := Kd.N_slice hN
    have hbase3 : ∀ j, (Value.slice A3 (setTo rest i r k).length c3).ownBlock = some j → w1.heap.size ≤ j := fun j hj => Kd.N_base hN j hj
    have HN := Lib.hid hN
    clear hN
    have cr0 : wr.cell? ⟨w.heap.size, 0, none⟩ = some (.string r.f0) := (blk_cell (blk_below HX1.out hb) 0).trans rfl
    have cr1 : wr.cell? ⟨w.heap.size, 1, none⟩ = some (.slice Ar r.f1.length cr) := (blk_cell (blk_below HX1.out hb) 1).trans rfl
    by_cases hlt : k < rest.length
    · have hd : decide ((k : Int) < (rest.length : Int)) = true := decide_eq_true (by omega)
      obtain ⟨ad, rfl⟩ : ∃ ad, A2 = some ad := by
        obtain ⟨g, cap, e, _⟩ := Kd.N_form HR1.out (by omega)
        injection e with e1 _ _
        exact ⟨_, e1⟩
      obtain ⟨cc, hcl, hFK, hcc⟩ := Kd.N_get HR1.out (default : Row) (k : Int) (by omega) (by omega)
      have hx : rest.getD (k : Int).toNat default = rest[k] := by simp [List.getD_eq_getElem?_getD, List.getElem?_eq_getElem hlt]
      rw [hx] at hFK
      rw [Int.toNat_natCast] at hcc
      obtain ⟨A1, c1, rfl, l1, g1⟩ := kRow_open (Kd.FK_now hFK)
      have v0 : w1.cell? (ad.add (k * 2)) = some (.string rest[k].f0) := hcc 0 _ rfl
      have v1 : w1.cell? ⟨(ad.add (k * 2)).block, (ad.add (k * 2)).off + 1, none⟩ = some (.slice A1 rest[k].f1.length c1) := by rw [← add_field _ _ 1 (by omega)]; exact hcc 1 _ rfl
      have HRW := Lib.hid (And.intro v0 v1)
      have r0 := pw_cell_below hb v0
      have r1 := pw_cell_below hb v1
      clear v0 v1
      have HFK := Lib.hid (Kd.FK_mono hFK (ok' := fun k => k < w1.heap.size) (fun j hj => hj.1.2))
      have HGT := Lib.hid (HI.out k hlt)
      have HLE := Lib.hid (HI2.out k hlt)
      have HS1 := Lib.hid (fun h : k < i => setTo_lt r hlt h)
      have HS2 := Lib.hid (fun h : i < k => setTo_gt r hlt h)
      have HS3 := Lib.hid (fun h : i = k => show setTo rest i r (k + 1) = setTo rest i r k ++ [r] ++ [rest[k]] by subst h; exact setTo_eq r hlt)
      clear hx hFK hcc hcl g1
      generalize rest[k] = x at *
      generalize hpre : setTo rest i r k = pre at *
      generalize hn2 : pre.length = n2 at *
      by_cases hki : i < k
      · have hdi : decide (i < k) = true := decide_eq_true hki
        rw [hdi]
        clear hdi
        go_wp2
        refine reg.region_seq (S := Below wr.heap.size wr) (by kernel_rfl) (by kernel_rfl) (below_drew (Below.refl _ _)) ?_
        iterate 12
          apply reg.seq_cons
          case h =>
            intro W hS
            have HS := Lib.hid hS
            clear hS
            go_wp2
            exact ⟨rfl, rfl, HS.out⟩
          try simp only [Act.put, List.setIfInBounds_toArray, List.set_cons_zero, List.set_cons_succ]
        intro W hS
        have hbW := below_step hb hS
        have q0 := pw_cell_below hS r0
        have q1 := pw_cell_below hS r1
        have HNW := Lib.hid (Kd.N_below HN.out hS)
        have HFW := Lib.hid (Kd.FK_step HFK.out (W1 := W) (fun j hj _ => hbW.block j hj))
        clear hS
        go_wp2_with (at_builtin; refine Kd.N_append kRow w1.heap.size rfl (.tmp 35) (.tmp 40) 22 52 (.agg #[.string ⟨#[]⟩, .slice none 0 0]) 40 rfl Tryd.underlying22 (by kernel_rfl) rfl (by decide) (by decide) (.slice A3 n2 c3) pre x [.string x.f0, .slice A1 x.f1.length c1]
                        (fun _ => True) (fun k => k < w1.heap.size) rfl rfl HFW.out (fun j hj => ⟨trivial, fun e => by have := hbase3 j e.symm; have := HB1.out.size; omega⟩) (fun j hj => trivial)
                        HNW.out (w0 := w1) hbW hbW.size (by omega) ?_
                     intro v1 w7 hN7 hB7 hg7 hat
                     obtain ⟨A7, c7, rfl⟩ := Kd.N_slice hN7
                     generalize hl7 : (pre ++ [x]).length = n7 at *)
        have e := HS2.out hki
        rw [← e] at hN7
        go_roundw
        case rel => exact ⟨k + 1, by omega, by go_num, by rw [decide_eq_true (show i < k + 1 by omega)], hN7, hB7⟩
        case measure => simp [intOf]; omega
      · have hdi : decide (i < k) = false := decide_eq_false hki
        rw [hdi]
        clear hdi
        go_wp2
        refine reg.region_seq (S := Below wr.heap.size wr) (by kernel_rfl) (by kernel_rfl) (below_drew (Below.refl _ _)) ?_
        iterate 12
          apply reg.seq_cons
          case h =>
            intro W hS
            have q0 := pw_cell_below hS r0
            have q1 := pw_cell_below hS cr0
            have HS := Lib.hid hS
            clear hS
            go_wp2
            exact ⟨rfl, rfl, HS.out⟩
          try simp only [Act.put, List.setIfInBounds_toArray, List.set_cons_zero, List.set_cons_succ]
        intro W hS
        have hbW := below_step hb hS
        have q0 := pw_cell_below hS r0
        have q1 := pw_cell_below hS r1
        have q2 := pw_cell_below hS cr0
        have q3 := pw_cell_below hS cr1
        have HNW := Lib.hid (Kd.N_below HN.out hS)
        have HFW := Lib.hid (Kd.FK_step HFK.out (W1 := W) (fun j hj _ => hbW.block j hj))
        clear hS
        by_cases hki2 : i = k
        · have hg := HGT.out hki2
          have HK2 := Lib.hid hki2
          clear hki2
          unfold gtB at hg
          rw [hg]
          clear hg
          have HFRW := Lib.hid (Kd.FK_step HFR.out (W1 := W) (fun j hj _ => (below_step HB1.out hbW).block j hj))
          go_wp2_with (first
            | (at_builtin; refine Kd.N_append kRow w1.heap.size rfl (.tmp 31) (.tmp 33) 22 52 (.agg #[.string ⟨#[]⟩, .slice none 0 0]) 40 rfl Tryd.underlying22 (by kernel_rfl) rfl (by decide) (by decide) (.slice A3 n2 c3) pre r [.string r.f0, .slice Ar r.f1.length cr]
                (fun _ => True) (fun k => k < w.heap.size) rfl rfl HFRW.out (fun j hj => ⟨trivial, fun e => by have := hbase3 j e.symm; have := HB1.out.size; omega⟩) (fun j hj => trivial)
                HNW.out (w0 := w1) hbW hbW.size (by omega) ?_
               intro v1 w7 hN7 hB7 hg7 hat
               have hbase7 := Kd.N_base hN7
               obtain ⟨A7, c7, rfl⟩ := Kd.N_slice hN7
               have hn7 : (pre ++ [r]).length = n2 + 1 := (by rw [List.length_append, hn2]; rfl)
               rw [hn7] at hN7 hbase7
               rw [hn7]
               have HN7 := Lib.hid hN7
               have HB7 := Lib.hid hbase7
               have p0 := pw_cell_below hB7 HRW.out.1
               have p1 := pw_cell_below hB7 HRW.out.2
               have HF7 := Lib.hid (Kd.FK_step HFK.out (W1 := w7) (fun j hj _ => hB7.block j hj))
               clear hN7 hbase7 hn7)
            | (at_builtin; refine Kd.N_append kRow w1.heap.size rfl (.tmp 35) (.tmp 40) 22 52 (.agg #[.string ⟨#[]⟩, .slice none 0 0]) 40 rfl Tryd.underlying22 (by kernel_rfl) rfl (by decide) (by decide) (.slice A7 (n2 + 1) c7) (pre ++ [r]) x [.string x.f0, .slice A1 x.f1.length c1]
                (fun _ => True) (fun k => k < w1.heap.size) rfl rfl HF7.out (fun j hj => ⟨trivial, fun e => by have := HB7.out j e.symm; omega⟩) (fun j hj => trivial)
                HN7.out (w0 := w1) hB7 hB7.size (by simp; omega) ?_
               intro v8 w8 hN8 hB8 hg8 hat8
               obtain ⟨A8, c8, rfl⟩ := Kd.N_slice hN8
               rw [← HS3.out HK2.out] at hN8
               rw [← HS3.out HK2.out]
               have HN8 := Lib.hid hN8
               clear hN8))
          go_roundw
          case rel => exact ⟨k + 1, by omega, by go_num, by have := HK2.out; rw [decide_eq_true (show i < k + 1 by omega)], HN8.out, hB8⟩
          case measure => simp [intOf]; omega
        · have hkl : k < i := by omega
          have hg := HLE.out hkl
          unfold gtB at hg
          rw [hg]
          clear hg
          go_wp2_with (at_builtin; refine Kd.N_append kRow w1.heap.size rfl (.tmp 35) (.tmp 40) 22 52 (.agg #[.string ⟨#[]⟩, .slice none 0 0]) 40 rfl Tryd.underlying22 (by kernel_rfl) rfl (by decide) (by decide) (.slice A3 n2 c3) pre x [.string x.f0, .slice A1 x.f1.length c1]
                          (fun _ => True) (fun k => k < w1.heap.size) rfl rfl HFW.out (fun j hj => ⟨trivial, fun e => by have := hbase3 j e.symm; have := HB1.out.size; omega⟩) (fun j hj => trivial)
                          HNW.out (w0 := w1) hbW hbW.size (by omega) ?_
                       intro v1 w7 hN7 hB7 hg7 hat
                       obtain ⟨A7, c7, rfl⟩ := Kd.N_slice hN7
                       generalize hl7 : (pre ++ [x]).length = n7 at *)
          have e := HS1.out hkl
          rw [← e] at hN7
          go_roundw
          case rel => exact ⟨k + 1, by omega, by go_num, by rw [decide_eq_false (show ¬ i < k + 1 by omega)], hN7, hB7⟩
          case measure => simp [intOf]; omega
    · obtain rfl : k = rest.length := by omega
      have hd : decide ((rest.length : Int) < (rest.length : Int)) = false := decide_eq_false (by omega)
      have hbw := below_step HB1.out hb
      by_cases hil : i < rest.length
      · have HE := Lib.hid (setTo_all r hil)
        rw [decide_eq_true hil]
        generalize hpre : setTo rest i r rest.length = pre at *
        generalize hn2 : pre.length = n2 at *
        go_wp2
        go_ret
        exact ⟨_, rfl, by rw [HSET.out, ← HE.out]; exact Kd.N_lower HN.out (by have := HB1.out.size; omega), hbw⟩
      · obtain rfl : i = rest.length := by omega
        have HE := Lib.hid (setTo_end (rest := rest) r)
        rw [decide_eq_false hil]
        have HFRW := Lib.hid (Kd.FK_step HFR.out (W1 := wr) (fun j hj _ => hbw.block j hj))
        generalize hpre : setTo rest rest.length r rest.length = pre at *
        generalize hn2 : pre.length = n2 at *
        go_wp2_with (at_builtin; refine Kd.N_append kRow w1.heap.size rfl (.tmp 44) (.tmp 46) 22 52 (.agg #[.string ⟨#[]⟩, .slice none 0 0]) 40 rfl Tryd.underlying22 (by kernel_rfl) rfl (by decide) (by decide) (.slice A3 n2 c3) pre r [.string r.f0, .slice Ar r.f1.length cr]
                        (fun _ => True) (fun k => k < w.heap.size) rfl rfl HFRW.out (fun j hj => ⟨trivial, fun e => by have := hbase3 j e.symm; have := HB1.out.size; omega⟩) (fun j hj => trivial)
                        HN.out (w0 := w1) hb hb.size (by omega) ?_
                     intro v1 w7 hN7 hB7 hg7 hat
                     rw [HE.out, ← HSET.out] at hN7
                     obtain ⟨A7, c7, rfl⟩ := Kd.N_slice hN7
                     have HN7 := Lib.hid hN7
                     clear hN7)
        go_ret
        exact ⟨_, rfl, Kd.N_lower HN7.out (by have := HB1.out.size; omega), below_step HB1.out hB7⟩
end Go.Proofs.YtmjmcmohicjfkaaDoor.tab
