import Derived.Test.YtmjmcmohicjfkaaDoorTabM
/-
  tables.Get.
-/
namespace Go.Proofs.YtmjmcmohicjfkaaDoor.tab
open Go.RowKit Go.Shelf Go.Proofs.YtmjmcmohicjfkaaDoorW.PrintWords

def getP (l : List Row) (key : ByteArray) : Option Row := l.find? fun r => r.f0.toList == key.toList
theorem get_case (l : List Row) (key : ByteArray) : (idxP (fun x : Row => x.f0.toList == key.toList) l = -1 ∧ getP l key = none) ∨ ∃ i, ∃ _ : i < l.length, idxP (fun x : Row => x.f0.toList == key.toList) l = (i : Int) ∧ getP l key = some l[i]! := by
  unfold idxP getP
  cases h : l.findIdx? fun x => x.f0.toList == key.toList with
  | none =>
    left
    refine ⟨rfl, ?_⟩
    rw [List.findIdx?_eq_none_iff] at h
    exact List.find?_eq_none.2 (fun x hx => by simpa using h x hx)
  | some i =>
    right
    obtain ⟨h1, h2, h3⟩ := List.findIdx?_eq_some_iff_getElem.1 h
    refine ⟨i, h1, rfl, ?_⟩
    rw [getElem!_pos l i h1]
    exact List.find?_eq_some_iff_getElem.2 ⟨h2, i, h1, rfl, fun j hj => by simpa using h3 j hj⟩

set_option maxRecDepth 100000 in
set_option maxHeartbeats 2000000 in
theorem get_own (l : List Row) (key : ByteArray) (A : Option Addr) (c : Nat) (w : World) (hr : kRow.C w A l.length l) (hf : FitRows l) :
    Calls Tryd.prog 25 #[.slice A l.length c, .string key] w fun e w' => ∃ (r : Row) (B : Option Addr) (cc : Nat), e = .returned (.tuple #[.agg #[.string r.f0, .slice B r.f1.length cc], .bool (getP l key).isSome]) ∧ Kd.string.R 9 w' w.heap.size (fun k => w.heap.size ≤ k) (.slice B r.f1.length cc) r.f1 ∧ (getP l key).getD ⟨⟨#[]⟩, []⟩ = r ∧ Below w.heap.size w w' := by
  obtain ⟨W0, hW0⟩ : ∃ W0, (w.alloc (.cells #[.string key] 9)).alloc (.cells #[.string ⟨#[]⟩, .slice none 0 0] 52) = W0 := ⟨_, rfl⟩
  have hB0 : Below w.heap.size w W0 := by rw [← hW0]; exact below_alloc (below_alloc (Below.refl _ _) _) _
  have x0 : W0.heap[w.heap.size]? = some (.cells #[.string key] 9 (0, 0)) := by rw [← hW0]; exact blk_alloc (blk_new _ _) _
  have x1 : W0.heap[w.heap.size + 1]? = some (.cells #[.string ⟨#[]⟩, .slice none 0 0] 52 (0, 0)) := by
    rw [← hW0]; have := blk_new (w.alloc (.cells #[.string key] 9)) (.cells #[.string ⟨#[]⟩, .slice none 0 0] 52); rwa [World.size_alloc] at this
  have c0 : W0.cell? ⟨w.heap.size, 0, none⟩ = some (.string key) := (blk_cell x0 0).trans rfl
  have hlt1 := blk_lt x1
  have hI := indexFunc_row A c l (fun x : Row => x.f0.toList == key.toList) 63 #[.pointer (some ⟨w.heap.size, 0, none⟩)] W0 enters_get1 (Kd.C_below hr hB0) (fun x A1 c1' W hW _ => get1_any x A1 c1' w.heap.size key W (pw_cell_below hW c0))
  have HI := Lib.hid hI
  have HR := Lib.hid hr
  have HF := Lib.hid hf
  have HX := Lib.hid x1
  clear hI hr hf x0 x1 c0
  rcases get_case l key with ⟨hi, hg⟩ | ⟨i, hil, hi, hg⟩
  · rw [hi] at HI
    clear hi
    go_enter Tryd.func25, Tryd.ntmps25
    go_wp2_with (go_at_call 59; refine HI.out.mono ?_; rintro e w1 ⟨rfl, hb1⟩
                 have y1 := blk_below HX.out hb1
                 obtain ⟨w3, w4, hw3, hw4, f0, f1, f2, f3, f4, f5, hb4, ho4⟩ := two_cells y1 (.string ⟨#[]⟩) (.slice none 0 0))
    refine bodyPost_ret (v := .tuple #[.agg #[.string ⟨#[]⟩, .slice none 0 0], .bool false]) (by simp [results, Tryd.f25, go_sem, f4, f5]) rfl ?_
    rw [hg]
    exact ⟨⟨⟨#[]⟩, []⟩, none, 0, rfl, Kd.R_nil _ _ _ _ _, rfl, hb4 w (below_step hB0 hb1) (by omega)⟩
  · rw [hi] at HI
    have hx : l[i]! = l[i] := getElem!_pos l i hil
    rw [hx] at hg
    have hfit := HF.out.1 l[i] (List.getElem_mem hil)
    have hd : decide ((i : Int) < 0) = false := decide_eq_false (by omega)
    have lmax : l.length ≤ 9223372036854775807 := HR.out.2.1
    clear hi
    go_enter Tryd.func25, Tryd.ntmps25
    go_wp2_with (first
      | (go_at_call 59; refine HI.out.mono ?_; rintro e w1 ⟨rfl, hb1⟩
         obtain ⟨ad, A1, c1, rfl, r0, r1, hc1, hC1⟩ := at_Row (Kd.C_below HR.out (below_step hB0 hb1)) i hil
         rw [hx] at r0 r1 hc1 hC1
         have HO := Lib.hid (own_own l[i] A1 c1 w1 hC1 hfit)
         clear hC1 hx
         generalize l[i] = r at *)
      | (go_at_call 62; refine HO.out.mono ?_; rintro e w2 ⟨B, cc, rfl, hF, hb2⟩
         have y1 := blk_below (blk_below HX.out hb1) hb2
         obtain ⟨w3, w4, hw3, hw4, f0, f1, f2, f3, f4, f5, hb4, ho4⟩ := two_cells y1 (.string r.f0) (.slice B r.f1.length cc)))
    refine bodyPost_ret (v := .tuple #[.agg #[.string r.f0, .slice B r.f1.length cc], .bool true]) (by simp [results, Tryd.f25, go_sem, f4, f5]) rfl ?_
    rw [hg]
    have h1 := hb1.size
    exact ⟨r, B, cc, rfl, Kd.R_lower (Kd.R_mono (Kd.R_step hF (w1 := w4) (fun k hk _ => ho4 k (by omega))) (fun k hk => by omega)) (by omega), rfl, hb4 w (below_step (below_step hB0 hb1) hb2) (by omega)⟩
theorem get_any (l : List Row) (key : ByteArray) (A : Option Addr) (c : Nat) (w : World) (hr : kRow.C w A l.length l) (hf : FitRows l) :
    Calls Tryd.prog 25 #[.slice A l.length c, .string key] w fun e w' => ∃ (r : Row) (B : Option Addr) (cc : Nat), e = .returned (.tuple #[.agg #[.string r.f0, .slice B r.f1.length cc], .bool (getP l key).isSome]) ∧ r.f1.length ≤ cc ∧ Kd.F Kd.string w' (fun k => w.heap.size ≤ k) B r.f1.length r.f1 ∧ (getP l key).getD ⟨⟨#[]⟩, []⟩ = r ∧ Below w.heap.size w w' :=
  (get_own l key A c w hr hf).mono fun e w' ⟨r, B, cc, he, hR, hg, hb⟩ => ⟨r, B, cc, he, (R_read hR).2.1, (R_read hR).2.2, hg, hb⟩
end Go.Proofs.YtmjmcmohicjfkaaDoor.tab
