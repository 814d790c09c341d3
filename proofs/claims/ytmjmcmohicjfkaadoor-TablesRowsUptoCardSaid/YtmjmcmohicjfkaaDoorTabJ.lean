import Derived.Test.YtmjmcmohicjfkaaDoorTabG
/-
  tables.own and tables.Drop: rows of their own.
-/
namespace Go.Proofs.YtmjmcmohicjfkaaDoor.tab
open Go.RowKit Go.Shelf Go.Proofs.YtmjmcmohicjfkaaDoorW.PrintWords

/-- A pair of cells is written. -/
theorem two_cells {W : World} {g : Nat} {t : TypeId} {u0 u1 : Value} (h : W.heap[g]? = some (.cells #[u0, u1] t (0, 0))) (v0 v1 : Value) : ∃ W1 W2, W.setCell ⟨g, 0, none⟩ v0 = W1 ∧ W1.setCell ⟨g, 1, none⟩ v1 = W2 ∧
    W.frozen? ⟨g, 0, none⟩ = false ∧ W.cell? ⟨g, 0, none⟩ = some u0 ∧ W1.frozen? ⟨g, 1, none⟩ = false ∧ W1.cell? ⟨g, 1, none⟩ = some u1 ∧ W2.cell? ⟨g, 0, none⟩ = some v0 ∧ W2.cell? ⟨g, 1, none⟩ = some v1 ∧
    (∀ w : World, Below w.heap.size w W → w.heap.size ≤ g → Below w.heap.size w W2) ∧ ∀ k, k ≠ g → W2.heap[k]? = W.heap[k]? := by
  have h1 : (W.setCell ⟨g, 0, none⟩ v0).heap[g]? = some (.cells #[v0, u1] t (0, 0)) := blk_put h 0 _ rfl
  have h2 : ((W.setCell ⟨g, 0, none⟩ v0).setCell ⟨g, 1, none⟩ v1).heap[g]? = some (.cells #[v0, v1] t (0, 0)) := blk_put h1 1 _ rfl
  exact ⟨_, _, rfl, rfl, blk_frozen h 0, (blk_cell h 0).trans rfl, blk_frozen h1 1, (blk_cell h1 1).trans rfl, (blk_cell h2 0).trans rfl, (blk_cell h2 1).trans rfl, fun w hb hg => below_set (below_set hb hg) hg,
    fun k hk => (Below.heap_setCell _ ⟨g, 1, none⟩ _ k hk).trans (Below.heap_setCell W ⟨g, 0, none⟩ _ k hk)⟩

set_option maxRecDepth 100000 in
set_option maxHeartbeats 2000000 in
/-- own: the row's cells lie in a new block. -/
theorem own_own (r : Row) (A : Option Addr) (c : Nat) (w : World) (hr : Kd.string.C w A r.f1.length r.f1) (hn : r.f1.length ≤ 8796093022207) :
    Calls Tryd.prog 62 #[.agg #[.string r.f0, .slice A r.f1.length c]] w fun e w' => ∃ B cc, e = .returned (.agg #[.string r.f0, .slice B r.f1.length cc]) ∧ Kd.string.R 9 w' w.heap.size (fun k => w.heap.size ≤ k) (.slice B r.f1.length cc) r.f1 ∧ Below w.heap.size w w' := by
  have HR := Lib.hid hr
  clear hr
  obtain ⟨W0, hW0⟩ : ∃ W0, (w.alloc (.cells #[.string r.f0, .slice A r.f1.length c] 52)).alloc (.cells #[.string ⟨#[]⟩, .slice none 0 0] 52) = W0 := ⟨_, rfl⟩
  have hB0 : Below w.heap.size w W0 := by rw [← hW0]; exact below_alloc (below_alloc (Below.refl _ _) _) _
  have x0 : W0.heap[w.heap.size]? = some (.cells #[.string r.f0, .slice A r.f1.length c] 52 (0, 0)) := by rw [← hW0]; exact blk_alloc (blk_new _ _) _
  have x1 : W0.heap[w.heap.size + 1]? = some (.cells #[.string ⟨#[]⟩, .slice none 0 0] 52 (0, 0)) := by
    rw [← hW0]; have := blk_new (w.alloc (.cells #[.string r.f0, .slice A r.f1.length c] 52)) (.cells #[.string ⟨#[]⟩, .slice none 0 0] 52); rwa [World.size_alloc] at this
  have c00 : W0.cell? ⟨w.heap.size, 0, none⟩ = some (.string r.f0) := (blk_cell x0 0).trans rfl
  have c01 : W0.cell? ⟨w.heap.size, 1, none⟩ = some (.slice A r.f1.length c) := (blk_cell x0 1).trans rfl
  have hmk := print_make_of (P := Tryd.prog) 50 9 (.string ⟨#[]⟩) 16 Tryd.underlying50 (by kernel_rfl) rfl (by decide) r.f1.length (by omega) W0
  obtain ⟨W1, hW1⟩ : ∃ W1, W0.alloc (.cells (madeCells #[.string ⟨#[]⟩] r.f1.length) 9) = W1 := ⟨_, rfl⟩
  have hown : W1.ownsRow w.heap.size 9 1 (.slice (some ⟨W0.heap.size, 0, none⟩) r.f1.length r.f1.length) r.f1.length (encs Value.string (List.replicate r.f1.length ⟨#[]⟩)) := by
    rw [← hW1]; exact own_made_of (enc := Value.string) (d := ⟨#[]⟩) W0 w.heap.size 9 r.f1.length hB0.size (by omega)
  have hB1 : Below w.heap.size w W1 := by rw [← hW1]; exact below_alloc hB0 _
  have d00 : W1.cell? ⟨w.heap.size, 0, none⟩ = some (.string r.f0) := by rw [← hW1]; exact pw_cell_below (below_alloc (Below.refl _ _) _) c00
  have d01 : W1.cell? ⟨w.heap.size, 1, none⟩ = some (.slice A r.f1.length c) := by rw [← hW1]; exact pw_cell_below (below_alloc (Below.refl _ _) _) c01
  rw [hW1] at hmk
  go_enter Tryd.func62, Tryd.ntmps62
  have HO := Lib.hid (Kd.R_of_own (enc := Value.string) (h1 := fun _ => rfl) (ok := fun k => W0.heap.size ≤ k) (xs := List.replicate r.f1.length ⟨#[]⟩) (by rw [List.length_replicate]; exact hown) (fun k hk => by simp only [Value.ownBlock, Option.some.injEq] at hk; omega))
  have HC := Lib.hid (Kd.C_below HR.out hB1)
  have HB1 := Lib.hid hB1
  clear hown HR
  have hlt : w.heap.size + 1 < W0.heap.size := blk_lt x1
  have hx1 := Lib.hid x1
  clear x0 x1 hB1
  go_wp2_with (refine Kd.R_copy (enc := Value.string) (h1 := fun _ => rfl) (⟨#[]⟩ : ByteArray) (w0 := w) w.heap.size rfl (.tmp 8) (.tmp 10) 50 50 9 rfl Tryd.underlying50 (by kernel_rfl) (.slice (some ⟨W0.heap.size, 0, none⟩) r.f1.length r.f1.length) (List.replicate r.f1.length ⟨#[]⟩) r.f1 A r.f1.length c (fun k => W0.heap.size ≤ k) rfl rfl HO.out HC.out HB1.out HB1.out.size ?_
               intro w2 hR2 hB2 hg2
               have e00 : w2.cell? ⟨w.heap.size, 0, none⟩ = some (.string r.f0) := cell_grown hg2 d00 (by simp only [Value.ownBlock]; intro e; injection e; omega)
               have y1 : w2.heap[w.heap.size + 1]? = some (.cells #[.string ⟨#[]⟩, .slice none 0 0] 52 (0, 0)) := blk_grown (by rw [← hW1]; exact blk_alloc hx1.out _) hg2 (by simp only [Value.ownBlock]; intro e; injection e; omega)
               obtain ⟨w3, w4, hw3, hw4, f0, f1, f2, f3, f4, f5, hb4, ho4⟩ := two_cells y1 (.string r.f0) (.slice (some ⟨W0.heap.size, 0, none⟩) r.f1.length r.f1.length))
  have e2 : r.f1.take (min r.f1.length (List.replicate r.f1.length (⟨#[]⟩ : ByteArray)).length) ++ (List.replicate r.f1.length (⟨#[]⟩ : ByteArray)).drop (min r.f1.length (List.replicate r.f1.length (⟨#[]⟩ : ByteArray)).length) = r.f1 := by simp
  rw [e2] at hR2
  have hF := Kd.R_step hR2 (w1 := w4) (fun k hk _ => ho4 k (by omega))
  refine bodyPost_ret (v := .agg #[.string r.f0, .slice (some ⟨W0.heap.size, 0, none⟩) r.f1.length r.f1.length]) (by simp [results, Tryd.f62, go_sem, f4, f5]) rfl ?_
  exact ⟨_, _, rfl, Kd.R_mono hF (fun k hk => by omega), hb4 w hB2 (by omega)⟩

/-- .. and is read. -/
theorem R_read {W : World} {b : Nat} {ok : Nat → Prop} {B : Option Addr} {n cc : Nat} {l : List ByteArray} (h : Kd.string.R 9 W b ok (.slice B n cc) l) : n = l.length ∧ n ≤ cc ∧ Kd.F Kd.string W ok B n l :=
  ⟨(Kd.R_reads' h).1, (Kd.R_reads' h).2.1, Kd.V_F (Kd.R_V (base' := 0) h)⟩
theorem own_any (r : Row) (A : Option Addr) (c : Nat) (w : World) (hr : Kd.string.C w A r.f1.length r.f1) (hn : r.f1.length ≤ 8796093022207) :
    Calls Tryd.prog 62 #[.agg #[.string r.f0, .slice A r.f1.length c]] w fun e w' => ∃ B cc, e = .returned (.agg #[.string r.f0, .slice B r.f1.length cc]) ∧ r.f1.length ≤ cc ∧ Kd.F Kd.string w' (fun k => w.heap.size ≤ k) B r.f1.length r.f1 ∧ Below w.heap.size w w' :=
  (own_own r A c w hr hn).mono fun e w' ⟨B, cc, he, hR, hb⟩ => ⟨B, cc, he, (R_read hR).2.1, (R_read hR).2.2, hb⟩

/-- A row whose cells lie in a plain block of S. -/
def kOwn (S : Nat → Prop) : Kd Row where
  sz := 2
  E := []
  K := fun w x cs => ∃ v, cs = [.string x.f0, v] ∧ Kd.string.R 9 w 0 S v x.f1
  M := fun _ _ _ _ _ => False
  K_len := fun h => by obtain ⟨v, rfl, _⟩ := h; rfl
  K_one := fun h => by
    obtain ⟨v, rfl, hR⟩ := h
    intro u hu
    simp only [List.mem_cons, List.not_mem_nil, or_false] at hu
    rcases hu with rfl | rfl
    · rfl
    · exact (Kd.R_val hR).2
  K_below := fun hb h => by
    obtain ⟨v, rfl, hR⟩ := h
    exact ⟨v, rfl, Kd.R_below hR hb⟩
  K_of_M := fun h => h.elim
  M_mono := fun _ h => h.elim
  M_bound := fun h => h.elim
  M_move := fun _ h => h.elim
  M_lower := fun _ h => h.elim
theorem row_info : (Tryd.prog.info? 52).map (fun i => (i.zero, i.size, i.bytes)) = some (some (.agg #[.string ⟨#[]⟩, .slice none 0 0]), 2, 40) := by kernel_rfl
section
variable {S S' ok : Nat → Prop} {W : World} {r : Row} {v : Value} {b lo e base : Nat} {c : List Value} {xs : List Row}
theorem fk_own (h : Kd.string.R 9 W b (fun k => lo ≤ k) v r.f1) (hS : ∀ k, lo ≤ k → S k) : Kd.FK (kOwn S) W (fun k => lo ≤ k) r [.string r.f0, v] :=
  fun _ hW => ⟨v, rfl, Kd.R_mono (Kd.R_lower (Kd.R_step h hW) (Nat.zero_le _)) hS⟩
theorem fk_kRow (h : Kd.FK (kOwn S) W ok r c) : Kd.FK kRow W ok r c := fun W' hW => by
  obtain ⟨v, rfl, hR⟩ := h W' hW
  obtain ⟨A, cc, rfl⟩ := Kd.R_slice hR
  obtain ⟨_, h2, h3⟩ := Kd.R_reads' hR
  exact ⟨[.string r.f0], [.slice A r.f1.length cc], rfl, rfl, A, cc, rfl, h2, h3⟩
theorem fk_own_mono (h : Kd.FK (kOwn S) W ok r c) (hS : ∀ k, S k → k < W.heap.size → S' k) : Kd.FK (kOwn S') W ok r c := fun W' hW => by
  obtain ⟨v, e0, hR0⟩ := Kd.FK_now h
  obtain ⟨v', rfl, hR⟩ := h W' hW
  obtain rfl : v' = v := by simpa using e0
  have hlt := Kd.R_lt hR0
  refine ⟨v', rfl, Kd.R_mono (Kd.R_tight rfl hR) (fun k hk => hS k (hR.1 k hk.symm) (hlt k hk.symm))⟩
theorem N_kRow (h : Kd.N (kOwn S) e W base ok v xs) : Kd.N kRow e W base ok v xs := by
  obtain ⟨h0, rows, hl, hR, hf⟩ := h
  exact ⟨h0, rows, hl, hR, fun j x c hx hc => fk_kRow (hf j x c hx hc)⟩
theorem N_own_mono (h : Kd.N (kOwn S) e W base ok v xs) (hS : ∀ k, S k → k < W.heap.size → S' k) : Kd.N (kOwn S') e W base ok v xs := by
  obtain ⟨h0, rows, hl, hR, hf⟩ := h
  exact ⟨h0, rows, hl, hR, fun j x c hx hc => fk_own_mono (hf j x c hx hc) hS⟩
end

theorem fk_row' {W : World} {ok : Nat → Prop} {A1 : Option Addr} {c1 : Nat} {r : Row} (hl : r.f1.length ≤ c1) (hf : Kd.F Kd.string W ok A1 r.f1.length r.f1) : Kd.FK kRow W ok r [.string r.f0, .slice A1 r.f1.length c1] :=
  fun W' hW => ⟨[.string r.f0], [.slice A1 r.f1.length c1], rfl, rfl, A1, c1, rfl, hl, hf W' hW⟩
def dropP (l : List Row) (key : ByteArray) : List Row := l.filter fun r => !(r.f0.toList == key.toList)
/-- Rows that may be copied. -/
def FitRows (l : List Row) : Prop := (∀ r ∈ l, r.f1.length ≤ 8796093022207) ∧ l.length ≤ 1099511627776

set_option maxRecDepth 100000 in
set_option maxHeartbeats 2000000 in
theorem drop_own (l : List Row) (key : ByteArray) (A : Option Addr) (c : Nat) (w : World) (S : Nat → Prop) (hS : ∀ k, w.heap.size ≤ k → S k) (hr : kRow.C w A l.length l) (hf : FitRows l) :
    Calls Tryd.prog 28 #[.slice A l.length c, .string key] w fun e w' => ∃ v, e = .returned v ∧ Kd.N (kOwn S) 52 w' w.heap.size (fun k => w.heap.size ≤ k) v (dropP l key) ∧ Below w.heap.size w w' := by
  have HR := Lib.hid hr
  have la : l.length ≤ 9223372036854775807 := hr.2.1
  have HF := Lib.hid hf
  have HSS := Lib.hid hS
  have lf := hf.2
  clear hr hf hS
  go_enter Tryd.func28, Tryd.ntmps28
  go_wp2
  go_loopw [5, 10] (fun v i wr => ∃ k : Nat, k ≤ l.length ∧ i = .int .i64 k ∧ Kd.N (kOwn S) 52 wr w.heap.size (fun k => w.heap.size ≤ k) v (dropP (l.take k) key) ∧ Below w.heap.size w wr) (fun _ i _ => l.length - (intOf i).toNat)
  case atStart => exact ⟨0, Nat.zero_le _, rfl, Kd.N_nil _ _ _ _ _, Below.refl _ _⟩
  case round =>
    obtain ⟨k, hk, rfl, hN, hb⟩ := hrel
    by_cases hlt : k < l.length
    · have hx : l[k]! = l[k] := getElem!_pos l k hlt
      obtain ⟨ad, A1, c1, rfl, r0, r1, hc1, hC1⟩ := at_Row (Kd.C_below HR.out hb) k hlt
      rw [hx] at r0 r1 hc1 hC1
      have htk : l.take (k + 1) = l.take k ++ [l[k]] := List.take_succ_eq_append_getElem hlt
      have hfit := HF.out.1 l[k] (List.getElem_mem hlt)
      have hlen : (dropP (l.take k) key).length ≤ k := by
        unfold dropP
        refine Nat.le_trans (List.length_filter_le _ _) ?_
        simp; omega
      have HTK := Lib.hid (show dropP (l.take (k + 1)) key = dropP (l.take k) key ++ (if (!(l[k].f0.toList == key.toList)) = true then [l[k]] else []) by
        rw [htk]; unfold dropP; rw [List.filter_append]; simp [List.filter_cons])
      clear hx htk
      generalize l[k] = r at *
      have HC1 := Lib.hid hC1
      obtain ⟨A2, c2, rfl⟩ := Kd.N_slice hN
      have hold : ∀ j, (Value.slice A2 (dropP (l.take k) key).length c2).ownBlock = some j → j < wr.heap.size := fun j hj => Kd.N_lt hN j hj
      have HN := Lib.hid hN
      clear hC1 hN
      obtain ⟨W1, hW1⟩ : ∃ W1, wr.alloc (.cells #[.string r.f0, .slice A1 r.f1.length c1] 52) = W1 := ⟨_, rfl⟩
      have hB1 : Below wr.heap.size wr W1 := by rw [← hW1]; exact below_alloc (Below.refl _ _) _
      have x0 : W1.heap[wr.heap.size]? = some (.cells #[.string r.f0, .slice A1 r.f1.length c1] 52 (0, 0)) := by rw [← hW1]; exact blk_new _ _
      have c00 : W1.cell? ⟨wr.heap.size, 0, none⟩ = some (.string r.f0) := (blk_cell x0 0).trans rfl
      have c01 : W1.cell? ⟨wr.heap.size, 1, none⟩ = some (.slice A1 r.f1.length c1) := (blk_cell x0 1).trans rfl
      clear x0
      generalize hpre : dropP (l.take k) key = pre at *
      generalize hn2 : pre.length = n2 at *
      go_wp2_with (first
        | (go_at_call 62; refine (own_own r A1 c1 W1 (Kd.C_below HC1.out hB1) hfit).mono ?_; rintro e w2 ⟨B, cc, rfl, hF, hb2⟩)
        | (at_builtin; refine Kd.N_append (kOwn S) w.heap.size rfl (.tmp 18) (.tmp 21) 22 52 (.agg #[.string ⟨#[]⟩, .slice none 0 0]) 40 rfl Tryd.underlying22 row_info rfl (show 0 < 2 by decide) (by decide) (.slice A2 n2 c2) pre r [.string r.f0, .slice B r.f1.length cc]
            (fun k => w.heap.size ≤ k) (fun k => W1.heap.size ≤ k) rfl rfl (fk_own hF (fun k hk => HSS.out k (by have := hb.size; have := hB1.size; omega))) (fun k hk => ⟨by have := hb.size; have := hB1.size; omega, fun e => by have := hold k e.symm; have := hB1.size; omega⟩) (fun k hk => by have := hb.size; have := hB1.size; have := hb2.size; omega)
            (Kd.N_below (Kd.N_below HN.out hB1) hb2) (w0 := w) (below_step (below_step hb hB1) hb2) (by have := hb.size; have := hB1.size; have := hb2.size; omega) (by omega) ?_
           intro v1 w7 hN7 hB7 hg7 hat
           obtain ⟨A7, c7, rfl⟩ := Kd.N_slice hN7
           generalize hl7 : (pre ++ [r]).length = n7 at *))
      · rename_i hq
        have e := HTK.out
        rw [if_pos hq] at e
        go_roundw
        case rel => exact ⟨k + 1, by omega, by go_num, by rw [e]; exact hN7, hB7⟩
        case measure => simp [intOf]; omega
      · rename_i hq
        have e := HTK.out
        rw [if_neg (by rw [hq]; simp), List.append_nil] at e
        go_roundw
        case rel => exact ⟨k + 1, by omega, by go_num, by rw [e]; exact Kd.N_below HN.out hB1, below_step hb hB1⟩
        case measure => simp [intOf]; omega
    · obtain rfl : k = l.length := by omega
      rw [List.take_length] at hN
      obtain ⟨A2, c2, rfl⟩ := Kd.N_slice hN
      have HN := Lib.hid hN
      clear hN
      go_wp2
      go_ret
      exact ⟨_, rfl, HN.out, hb⟩
theorem drop_any (l : List Row) (key : ByteArray) (A : Option Addr) (c : Nat) (w : World) (hr : kRow.C w A l.length l) (hf : FitRows l) :
    Calls Tryd.prog 28 #[.slice A l.length c, .string key] w fun e w' => ∃ v, e = .returned v ∧ Kd.N kRow 52 w' w.heap.size (fun k => w.heap.size ≤ k) v (dropP l key) ∧ Below w.heap.size w w' :=
  (drop_own l key A c w (fun k => w.heap.size ≤ k) (fun _ h => h) hr hf).mono fun e w' ⟨v, he, hN, hb⟩ => ⟨v, he, N_kRow hN, hb⟩
end Go.Proofs.YtmjmcmohicjfkaaDoor.tab
