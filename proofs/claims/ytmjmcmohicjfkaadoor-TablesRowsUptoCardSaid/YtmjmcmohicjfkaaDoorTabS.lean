import Derived.Test.YtmjmcmohicjfkaaDoorTabR
import Derived.Test.YtmjmcmohicjfkaaDoorRegC
/-
  lent: rows of their own.
-/
namespace Go.Proofs.YtmjmcmohicjfkaaDoor.tab
open Go.RowKit Go.Shelf Go.Proofs.YtmjmcmohicjfkaaDoorW.PrintWords

/-- The empty literal is a row of one's own. -/
theorem lent_start (w : World) : Kd.N kRow 52 (w.alloc (.cells #[] 52)) w.heap.size (fun k => w.heap.size ≤ k) (.slice (some ⟨w.heap.size, 0, none⟩) 0 0) ([].take 0) := by
  refine ⟨fun k hk => by simp only [Value.ownBlock, Option.some.injEq] at hk; omega, [], rfl, ⟨fun k hk => hk.symm, [], ?_, Reps.none _ _⟩, fun j x c hx => by simp at hx⟩
  have h := World.ownsRow_lit (base := w.heap.size) (e := 52) (size := 2) w #[] 0 (Nat.le_refl _) (by simp) (by simp)
  rw [List.toList_toArray] at h
  exact h
set_option maxRecDepth 100000 in
set_option maxHeartbeats 2000000 in
theorem lent_any (l : List Row) (A : Option Addr) (c : Nat) (w : World) (hr : kRow.C w A l.length l) (hf : FitRows l) :
    Calls Tryd.prog 24 #[.slice A l.length c] w fun e w' => ∃ v, e = .returned v ∧ Kd.N kRow 52 w' w.heap.size (fun k => w.heap.size ≤ k) v l ∧ Below w.heap.size w w' := by
  have HR := Lib.hid hr
  have la : l.length ≤ 9223372036854775807 := hr.2.1
  have HF := Lib.hid hf
  have lf := hf.2
  clear hr hf
  go_enter Tryd.func24, Tryd.ntmps24
  go_wp2
  go_loopw [3, 4] (fun v i wr => ∃ k : Nat, k ≤ l.length ∧ i = .int .i64 k ∧ Kd.N kRow 52 wr w.heap.size (fun k => w.heap.size ≤ k) v (l.take k) ∧ Below w.heap.size w wr) (fun _ i _ => l.length - (intOf i).toNat)
  case atStart => exact ⟨0, Nat.zero_le _, rfl, lent_start w, by first | exact below_alloc (Below.refl _ _) _ | exact Below.refl _ _⟩
  case round =>
    obtain ⟨k, hk, rfl, hN, hb⟩ := hrel
    by_cases hlt : k < l.length
    · have hd : decide ((k : Int) < (l.length : Int)) = true := decide_eq_true (by omega)
      have hx : l[k]! = l[k] := getElem!_pos l k hlt
      obtain ⟨ad, A1, c1, rfl, r0w, r1w, hc1, hCw⟩ := at_Row HR.out k hlt
      rw [hx] at r0w r1w hc1 hCw
      have r0 := pw_cell_below hb r0w
      have r1 := pw_cell_below hb r1w
      have hC1 := Kd.C_below hCw hb
      have HRW := Lib.hid (And.intro r0w r1w)
      clear r0w r1w hCw
      have HTK := Lib.hid (show l.take (k + 1) = l.take k ++ [l[k]] from List.take_succ_eq_append_getElem hlt)
      have hfit := HF.out.1 l[k] (List.getElem_mem hlt)
      clear hx
      generalize l[k] = r at *
      have HC1 := Lib.hid hC1
      obtain ⟨A2, c2, rfl⟩ := Kd.N_slice hN
      have hlk : (l.take k).length = k := by simp; omega
      rw [hlk] at hN
      have hold : ∀ j, (Value.slice A2 k c2).ownBlock = some j → j < wr.heap.size := fun j hj => Kd.N_lt hN j hj
      have HN := Lib.hid hN
      have HLK := Lib.hid hlk
      clear hC1 hN hlk
      go_wp2
      refine reg.region_chain_wp [false, false, false, false, false, false, true, false, false, false, false, false, true, true, true, true, true] (T := fun W' => W'.cell? (ad.add (k * 2)) = some (.string r.f0) ∧ W'.cell? ⟨(ad.add (k * 2)).block, (ad.add (k * 2)).off + 1, none⟩ = some (.slice A1 r.f1.length c1)) (by kernel_rfl) rfl (by kernel_rfl) ?_
      dsimp only [reg.splitQ, reg.splitM]
      iterate 11
        apply reg.read_cons
        case h =>
          intro W' hT
          obtain ⟨q0, q1⟩ := hT
          go_wp2
          exact ⟨rfl, _, rfl, rfl, rfl⟩
        try simp only [Act.put, List.setIfInBounds_toArray, List.set_cons_zero, List.set_cons_succ]
      apply reg.read_nil
      refine reg.chain_cons ⟨r0, r1⟩ ?_
      go_wp2
      refine ⟨rfl, _, rfl, ?_⟩
      try simp only [Act.put, List.setIfInBounds_toArray, List.set_cons_zero, List.set_cons_succ]
      obtain ⟨W1, hW1⟩ : ∃ W1, (wr.alloc (.cells #[] 9)).drew = W1 := ⟨_, rfl⟩
      have hB1 : Below wr.heap.size wr W1 := by rw [← hW1]; exact below_drew (below_alloc (Below.refl _ _) _)
      have ho : W1.ownsRow wr.heap.size 9 1 (.slice (some ⟨wr.heap.size, 0, none⟩) 0 0) 0 [] := by
        have h := World.ownsRow_lit (base := wr.heap.size) (e := 9) (size := 1) wr #[] 0 (Nat.le_refl _) (by simp) (by simp)
        rw [List.toList_toArray] at h
        rw [← hW1]
        exact h
      rw [hW1]
      refine reg.chain_cons ⟨pw_cell_below hB1 r0, pw_cell_below hB1 r1⟩ ?_
      refine Kd.R_append_rows Kd.string (Rr := fun x cs => Kd.string.K W1 x cs) (w0 := wr) wr.heap.size rfl (.tmp 18) (.tmp 23) 50 9 (.string ⟨#[]⟩) 16 rfl Tryd.underlying50 (by kernel_rfl) rfl (by decide) (by decide) (.slice (some ⟨wr.heap.size, 0, none⟩) 0 0) [] r.f1 A1 r.f1.length c1 (fun k => wr.heap.size ≤ k) (fun _ => False) rfl rfl
        (Kd.R_of_own (enc := Value.string) (h1 := fun _ => rfl) (xs := []) ho (fun k hk => by simp only [Value.ownBlock, Option.some.injEq] at hk; omega)) (Kd.C_below HC1.out hB1) (fun x cs h => h) (fun k hk => hk.elim) (fun k hk => Nat.le_trans hB1.size hk) hB1 hB1.size (by simp; omega) ?_
      intro v1 w3 hR3 hB3 hg3 hat3
      rw [List.nil_append] at hR3
      obtain ⟨B, cc, rfl⟩ := Kd.R_slice hR3
      have hcc := (R_read hR3).2.1
      have hF := (R_read hR3).2.2
      have HF3 := Lib.hid hF
      clear hR3 hF ho
      refine ⟨rfl, _, rfl, ?_⟩
      try simp only [Act.put, List.setIfInBounds_toArray, List.set_cons_zero, List.set_cons_succ]
      refine reg.chain_cons ⟨pw_cell_below hB3 r0, pw_cell_below hB3 r1⟩ ?_
      go_wp2
      refine ⟨rfl, _, rfl, ?_⟩
      try simp only [Act.put, List.setIfInBounds_toArray, List.set_cons_zero, List.set_cons_succ]
      refine reg.chain_cons ⟨pw_cell_below hB3 r0, pw_cell_below hB3 r1⟩ ?_
      go_wp2
      refine ⟨rfl, _, rfl, ?_⟩
      try simp only [Act.put, List.setIfInBounds_toArray, List.set_cons_zero, List.set_cons_succ]
      have hs1 : wr.heap.size ≤ W1.heap.size := hB1.size
      have hs3 := hB3.size
      refine reg.chain_cons ⟨pw_cell_below (below_alloc hB3 _) r0, pw_cell_below (below_alloc hB3 _) r1⟩ ?_
      refine Kd.N_append kRow w.heap.size rfl (.tmp 12) (.tmp 26) 22 52 (.agg #[.string ⟨#[]⟩, .slice none 0 0]) 40 rfl Tryd.underlying22 (by kernel_rfl) rfl (by decide) (by decide) (.slice A2 k c2) (l.take k) r [.string r.f0, .slice B r.f1.length cc]
        (fun k => w.heap.size ≤ k) (fun k => wr.heap.size ≤ k) rfl rfl (fk_row' hcc HF3.out) (fun j hj => ⟨by have := hb.size; omega, fun e => by have := hold j e.symm; omega⟩) (fun j hj => by have := hb.size; omega)
        (Kd.N_below HN.out hB3) (w0 := w) (below_step hb hB3) (by have := hb.size; omega) (by have := HLK.out; omega) ?_
      intro v1 w7 hN7 hB7 hg7 hat
      rw [← HTK.out] at hN7
      have HN7 := Lib.hid hN7
      clear hN7
      refine ⟨rfl, _, rfl, ?_⟩
      try simp only [Act.put, List.setIfInBounds_toArray, List.set_cons_zero, List.set_cons_succ]
      refine reg.chain_cons ⟨pw_cell_below hB7 HRW.out.1, pw_cell_below hB7 HRW.out.2⟩ ?_
      go_wp2
      refine ⟨rfl, _, rfl, ?_⟩
      try simp only [Act.put, List.setIfInBounds_toArray, List.set_cons_zero, List.set_cons_succ]
      apply reg.chain_nil
      go_wp2
      go_roundw
      case rel => exact ⟨k + 1, by omega, by go_num, HN7.out, hB7⟩
      case measure => simp [intOf]; omega
    · obtain rfl : k = l.length := by omega
      have hd : decide ((l.length : Int) < (l.length : Int)) = false := decide_eq_false (by omega)
      rw [List.take_length] at hN
      obtain ⟨A2, c2, rfl⟩ := Kd.N_slice hN
      have HN := Lib.hid hN
      clear hN
      go_wp2
      go_ret
      exact ⟨_, rfl, HN.out, hb⟩
end Go.Proofs.YtmjmcmohicjfkaaDoor.tab
