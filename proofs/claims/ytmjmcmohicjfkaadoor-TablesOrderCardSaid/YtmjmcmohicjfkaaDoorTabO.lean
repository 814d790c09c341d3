import Derived.Test.YtmjmcmohicjfkaaDoorTabN
/-
  TablesOrder: the walk.
-/
namespace Go.Proofs.YtmjmcmohicjfkaaDoor.tab
open Go.RowKit Go.Shelf Go.Proofs.YtmjmcmohicjfkaaDoorW.PrintWords

/-- What is kept while rows are set. -/
structure OInv (l out : List Row) (n : Nat) : Prop where
  s : Sorted out
  m : ∀ x ∈ out, x ∈ l
  n : out.length ≤ n
theorem OInv.set {l out : List Row} {n : Nat} (h : OInv l out n) {r : Row} (hr : r ∈ l) : OInv l (setP out r) (n + 1) := by
  refine ⟨set_sorted h.s r, fun x hx => ?_, by have := set_length out r; have := h.n; omega⟩
  rcases (set_mem out r x).1 hx with rfl | ⟨hx, _⟩
  · exact hr
  · exact h.m x hx
theorem OInv.fit {l out : List Row} {n : Nat} (h : OInv l out n) (hl : ∀ r ∈ l, r.f1.length ≤ 3) (hn : n ≤ 1000) : FitRows out :=
  ⟨fun r hr => by have := hl r (h.m r hr); omega, by have := h.n; omega⟩
theorem ok_small {t : ByteArray} {l : List Row} (h : okRows t l = true) : ∀ r ∈ l, r.f1.length ≤ 3 := by
  intro r hr
  obtain ⟨i, hi, rfl⟩ := List.getElem_of_mem hr
  unfold okRows at h
  have := List.all_eq_true.1 h i (by simpa using hi)
  unfold okRow at this
  rw [Bool.and_eq_true, decide_eq_true_eq, getElem!_pos l i hi] at this
  exact checkRow_len this.1
theorem printP_len {t : ByteArray} {l : List Row} (h : (printP t l).2 = 0) : l.length ≤ 32 := by
  unfold printP at h
  split at h
  · cases h
  · split at h
    · cases h
    · omega

theorem rem_pos (z : Int) (n : Nat) (hn : 0 < n) (hz : 0 ≤ z) : ∃ j : Nat, z.tmod (n : Int) = (j : Int) ∧ j < n := by
  refine ⟨(z % (n : Int)).toNat, ?_, ?_⟩
  · rw [Int.tmod_eq_emod_of_nonneg hz, Int.toNat_of_nonneg (Int.emod_nonneg _ (by omega))]
  · have := Int.emod_lt_of_pos z (b := (n : Int)) (by omega)
    omega
theorem rem_neg (z : Int) (n : Nat) (hn : 0 < n) (hz : z < 0) : ∃ j : Nat, -(z + 1).tmod (n : Int) = (j : Int) ∧ j < n := by
  obtain ⟨j, h1, h2⟩ := rem_pos (-(z + 1)) n hn (by omega)
  rw [Int.neg_tmod] at h1
  exact ⟨j, h1, h2⟩
set_option maxRecDepth 100000 in
set_option maxHeartbeats 4000000 in
theorem order_any (t : ByteArray) (l : List Row) (zs : List Int) (A Ao : Option Addr) (c co : Nat) (w : World) (m : Int) (hs : ∀ r ∈ l, SmallRow r) (hr : kRow.C w A l.length l) (hc : l.length ≤ c) (ho : ReadsInt w .i64 Ao zs.length zs) (hz : ∀ z ∈ zs, -9223372036854775808 ≤ z ∧ z ≤ 9223372036854775807)
    (hm : w.cell? ⟨1, 0, none⟩ = some (.int .i64 m)) : Calls Tryd.prog 6 #[.string t, .slice A l.length c, .slice Ao zs.length co] w fun e w' => e = .returned (.bool true) ∧ Below w.heap.size w w' := by
  have HR := Lib.hid hr
  have HO := Lib.hid ho
  have HS := Lib.hid hs
  have HZ := Lib.hid hz
  have HM := Lib.hid hm
  have lo : zs.length ≤ 9223372036854775807 := ho.2.1
  clear hr ho hs hz hm
  go_enter Tryd.func6, Tryd.ntmps6
  go_wp2_with (go_at_call 8; refine (shown_any w m HM.out).mono ?_; rintro e w1 ⟨rfl, hb1⟩)
  refine (print_any t l A c w1 HS.out (Kd.C_below HR.out hb1) hc).mono ?_
  rintro e w2 ⟨X, cx, rfl, hcx, hX, hb2'⟩
  have hb2 := below_step hb1 hb2'
  clear hX hcx
  by_cases hp : (printP t l).2 = 0
  · have hok := (printP_ok hp).1
    have HSo := Lib.hid (sorted_of_ok hok)
    have HSm := Lib.hid (ok_small hok)
    have hlen := printP_len hp
    clear hok
    go_wp2_with fail
    go_loopw [10, 11] (fun v i wr => ∃ (k : Nat) (out : List Row) (A' : Option Addr) (c' : Nat), v = .slice A' out.length c' ∧ i = .int .i64 k ∧ k ≤ zs.length ∧ k ≤ 100 ∧ kRow.C wr A' out.length out ∧ OInv l out k ∧ Below w.heap.size w wr) (fun _ i _ => zs.length - (intOf i).toNat)
    case atStart => exact ⟨0, [], _, _, rfl, rfl, Nat.zero_le _, Nat.zero_le _, ⟨rfl, by simp, fun h => by simp at h⟩, ⟨List.Pairwise.nil, by simp, Nat.le_refl _⟩, by first | exact below_alloc hb2 _ | exact hb2⟩
    case round =>
      obtain ⟨k, out, A', c', rfl, rfl, hk, hk100, hC, hI, hb⟩ := hrel
      have HC := Lib.hid hC
      have HI := Lib.hid hI
      clear hC hI
      by_cases hall : k < zs.length ∧ k < 100 ∧ 0 < l.length
      · obtain ⟨h1, h2, h3⟩ := hall
        have d1 : decide ((k : Int) < (zs.length : Int)) = true := decide_eq_true (by omega)
        have d2 : decide ((k : Int) < 100) = true := decide_eq_true (by omega)
        have d3 : decide ((0 : Int) < (l.length : Int)) = true := decide_eq_true (by omega)
        obtain ⟨ad, rfl, zc⟩ := HO.out.at_ (k : Int) (by omega) (by omega)
        have hzr : rd zs (k : Int) ∈ zs := by
          unfold rd
          rw [Int.toNat_natCast, List.getD_eq_getElem?_getD, List.getElem?_eq_getElem h1]
          exact List.getElem_mem h1
        have hzz := HZ.out _ hzr
        have zc2 := (hb.cell (World.block_lt_of_cell? w _ zc)).trans zc
        rw [Int.toNat_natCast] at zc2
        clear zc hzr
        generalize rd zs (k : Int) = z at *
        by_cases hneg : z < 0
        · have d4 : decide (z < 0) = true := decide_eq_true hneg
          obtain ⟨j, hj, hjl⟩ := rem_neg z l.length h3 hneg
          obtain ⟨ld, A1, c1, rfl, r0, r1, hc1, hC1⟩ := at_Row (Kd.C_below HR.out hb) j hjl
          have hx : l[j]! = l[j] := getElem!_pos l j hjl
          rw [hx] at r0 r1 hc1 hC1
          have hmem : l[j] ∈ l := List.getElem_mem hjl
          have hsm := HSm.out l[j] hmem
          have HSET := Lib.hid (set_any out l[j] A' A1 c' c1 wr HC.out (HI.out.fit HSm.out (by omega)) hC1 (by omega))
          clear hC1 hx
          generalize l[j] = r at *
          go_wp2_with (go_at_call 23; refine HSET.out.mono ?_; rintro e w3 ⟨v, rfl, hN3, hb3⟩; obtain ⟨A7, c7, rfl⟩ := Kd.N_slice hN3)
          go_roundw
          case rel => exact ⟨k + 1, _, _, _, rfl, by go_num, by omega, by omega, (Kd.N_reads' hN3).2.2, HI.out.set hmem, below_step hb hb3⟩
          case measure => simp [intOf]; omega
        · have d4 : decide (z < 0) = false := decide_eq_false hneg
          obtain ⟨j, hj, hjl⟩ := rem_pos z l.length h3 (by omega)
          obtain ⟨ld, A1, c1, rfl, r0, r1, hc1, hC1⟩ := at_Row (Kd.C_below HR.out hb) j hjl
          have hx : l[j]! = l[j] := getElem!_pos l j hjl
          rw [hx] at r0 r1 hc1 hC1
          have hmem : l[j] ∈ l := List.getElem_mem hjl
          have hsm := HSm.out l[j] hmem
          have HSET := Lib.hid (set_any out l[j] A' A1 c' c1 wr HC.out (HI.out.fit HSm.out (by omega)) hC1 (by omega))
          clear hC1 hx
          generalize l[j] = r at *
          go_wp2_with (go_at_call 23; refine HSET.out.mono ?_; rintro e w3 ⟨v, rfl, hN3, hb3⟩; obtain ⟨A7, c7, rfl⟩ := Kd.N_slice hN3)
          go_roundw
          case rel => exact ⟨k + 1, _, _, _, rfl, by go_num, by omega, by omega, (Kd.N_reads' hN3).2.2, HI.out.set hmem, below_step hb hb3⟩
          case measure => simp [intOf]; omega
      · have HNO := Lib.hid hall
        have hcase : ¬ k < zs.length ∨ (k < zs.length ∧ (100 : Int) ≤ (k : Int)) ∨ (k < zs.length ∧ (k : Int) < 100 ∧ ¬ 0 < l.length) := by omega
        clear hall
        rcases hcase with d1 | ⟨d1, d2⟩ | ⟨d1, d2, d3⟩
        all_goals go_wp2_with fail
        all_goals first
          | (exfalso; have hno := HNO.out; omega)
          | skip
        all_goals
          clear hb1 hb2' hb2
          go_loopw [10, 13] (fun v i wr => ∃ (p : Nat) (out : List Row) (A' : Option Addr) (c' : Nat), v = .slice A' out.length c' ∧ i = .int .i64 ((p : Int) - 1) ∧ p ≤ l.length ∧ (∀ j, p ≤ j → j < l.length → l[j]! ∈ out) ∧ kRow.C wr A' out.length out ∧ OInv l out (100 + (l.length - p)) ∧ Below w.heap.size w wr) (fun _ i _ => (intOf i + 1).toNat)
          case atStart => exact ⟨l.length, out, A', c', rfl, rfl, Nat.le_refl _, fun j h1 h2 => by omega, HC.out, ⟨HI.out.s, HI.out.m, by have := HI.out.n; omega⟩, hb⟩
          case round =>
            clear hb HC HI
            obtain ⟨p, out, A', c', rfl, rfl, hpl, hin, hC, hI, hb⟩ := hrel
            have HC := Lib.hid hC
            have HI := Lib.hid hI
            have HIN := Lib.hid hin
            clear hC hI hin
            cases p with
            | zero =>
              have heq : sameRows out l = true := decide_eq_true (sorted_eq HI.out.s HSo.out (fun x => ⟨HI.out.m x, fun hx => by
                obtain ⟨j, hj, rfl⟩ := List.getElem_of_mem hx
                have := HIN.out j (Nat.zero_le _) hj
                rwa [getElem!_pos l j hj] at this⟩))
              have hsa := same_any out l A' A c' c wr HC.out (Kd.C_below HR.out hb)
              rw [heq] at hsa
              have HSA := Lib.hid hsa
              clear hsa heq
              go_wp2_with (go_at_call 10; refine HSA.out.mono ?_; rintro e w3 ⟨rfl, hb3⟩)
              go_ret
              exact ⟨rfl, below_step hb hb3⟩
            | succ p =>
              have e : (((p + 1 : Nat) : Int) - 1) = (p : Int) := by omega
              rw [e]
              have hpl' : p < l.length := by omega
              have d5 : decide ((0 : Int) ≤ (p : Int)) = true := decide_eq_true (by omega)
              obtain ⟨ld, A1, c1, rfl, r0, r1, hc1, hC1⟩ := at_Row (Kd.C_below HR.out hb) p hpl'
              have hx : l[p]! = l[p] := getElem!_pos l p hpl'
              rw [hx] at r0 r1 hc1 hC1
              have hmem : l[p] ∈ l := List.getElem_mem hpl'
              have hsm := HSm.out l[p] hmem
              have HSET := Lib.hid (set_any out l[p] A' A1 c' c1 wr HC.out (HI.out.fit HSm.out (by omega)) hC1 (by omega))
              have hkeep : ∀ j, p ≤ j → j < l.length → l[j]! ∈ setP out l[p] := by
                intro j h1 h2
                rw [set_mem]
                by_cases hj : j = p
                · subst hj; exact .inl hx
                · right
                  refine ⟨HIN.out j (by omega) h2, fun ek => hj ?_⟩
                  rw [getElem!_pos l j h2] at ek
                  have h3 := List.pairwise_iff_getElem.1 HSo.out p j hpl' h2 (by omega)
                  rw [ek, gt_irrefl] at h3
                  cases h3
              have HK := Lib.hid hkeep
              have hI2 := Lib.hid (HI.out.set hmem)
              clear hC1 hx hkeep e
              generalize l[p] = r at *
              go_wp2_with (go_at_call 23; refine HSET.out.mono ?_; rintro e w3 ⟨v, rfl, hN3, hb3⟩; obtain ⟨A7, c7, rfl⟩ := Kd.N_slice hN3)
              go_roundw
              case rel => exact ⟨p, _, _, _, rfl, rfl, by omega, HK.out, (Kd.N_reads' hN3).2.2, ⟨hI2.out.s, hI2.out.m, by have := hI2.out.n; omega⟩, below_step hb hb3⟩
              case measure => simp [intOf]
  · have hq : ((printP t l).2 != 0) = true := by simpa using hp
    go_wp2
    go_ret
    exact ⟨rfl, hb2⟩
end Go.Proofs.YtmjmcmohicjfkaaDoor.tab
