import Derived.Test.YtmjmcmohicjfkaaDoorLayH
/-
  Layout: TakeNode.
-/
namespace Go.Proofs.YtmjmcmohicjfkaaDoor.lay
open Go.RowKit Go.Proofs.YtmjmcmohicjfkaaDoorW.PrintWords Go.Proofs.YtmjmcmohicjfkaaDoorW.PrintMore Go.Proofs.YtmjmcmohicjfkaaDoor.PLayoutTakes Go.Proofs.YtmjmcmohicjfkaaDoor.tab
attribute [local go_sem] max2_int min2_int max_two min_two

/-- A box of five cells is written. -/
theorem five_cells {W : World} {g : Nat} {t : TypeId} {u0 u1 u2 u3 u4 : Value} (h : W.heap[g]? = some (.cells #[u0, u1, u2, u3, u4] t (0, 0))) (v0 v1 v2 v3 v4 : Value) : ∃ W1 W2 W3 W4 W5,
    W.setCell ⟨g, 0, none⟩ v0 = W1 ∧ W1.setCell ⟨g, 1, none⟩ v1 = W2 ∧ W2.setCell ⟨g, 2, none⟩ v2 = W3 ∧ W3.setCell ⟨g, 3, none⟩ v3 = W4 ∧ W4.setCell ⟨g, 4, none⟩ v4 = W5 ∧
    (W.frozen? ⟨g, 0, none⟩ = false ∧ W.cell? ⟨g, 0, none⟩ = some u0 ∧ W1.frozen? ⟨g, 1, none⟩ = false ∧ W1.cell? ⟨g, 1, none⟩ = some u1 ∧ W2.frozen? ⟨g, 2, none⟩ = false ∧ W2.cell? ⟨g, 2, none⟩ = some u2 ∧ W3.frozen? ⟨g, 3, none⟩ = false ∧ W3.cell? ⟨g, 3, none⟩ = some u3 ∧ W4.frozen? ⟨g, 4, none⟩ = false ∧ W4.cell? ⟨g, 4, none⟩ = some u4) ∧
    W5.heap[g]? = some (.cells #[v0, v1, v2, v3, v4] t (0, 0)) ∧ W5.heap.size = W.heap.size ∧ W.grownBy W5 (some g) := by
  have h1 : (W.setCell ⟨g, 0, none⟩ v0).heap[g]? = some (.cells #[v0, u1, u2, u3, u4] t (0, 0)) := blk_put h 0 _ rfl
  have h2 := blk_put h1 1 v1 (cs' := #[v0, v1, u2, u3, u4]) rfl
  have h3 := blk_put h2 2 v2 (cs' := #[v0, v1, v2, u3, u4]) rfl
  have h4 := blk_put h3 3 v3 (cs' := #[v0, v1, v2, v3, u4]) rfl
  have h5 := blk_put h4 4 v4 (cs' := #[v0, v1, v2, v3, v4]) rfl
  exact ⟨_, _, _, _, _, rfl, rfl, rfl, rfl, rfl, ⟨blk_frozen h 0, (blk_cell h 0).trans rfl, blk_frozen h1 1, (blk_cell h1 1).trans rfl, blk_frozen h2 2, (blk_cell h2 2).trans rfl, blk_frozen h3 3, (blk_cell h3 3).trans rfl, blk_frozen h4 4, (blk_cell h4 4).trans rfl⟩, h5, by simp [World.setCell],
    ((((grown_set _ g 0 v0).trans (grown_set _ g 1 v1)).trans (grown_set _ g 2 v2)).trans (grown_set _ g 3 v3)).trans (grown_set _ g 4 v4)⟩
theorem taken_any (b : List Int) (ad : Addr) (i n c' : Nat) (w : World) (hb : Bytes b) (hl : b.length ≤ 1000) (hr : (Kd.int .u8).C w (some ad) b.length b) (hi : i + 1 < b.length) (hi1 : 1 ≤ i) (hn : n = b.length - i) (hc : n ≤ c') :
    Calls Tryd.prog 50 #[.slice (some ⟨ad.block, ad.off + i, none⟩) n c'] w fun e w' => e = .returned (.int .i64 (at2 b i)) ∧ Below w.heap.size w w' := by
  have hcd := Kd.C_drop (c := b.length + 1) hr (m := i) (by omega) (by omega)
  rw [if_neg (by omega)] at hcd
  have had : (some ad : Option Addr).map (·.add (i * (Kd.int .u8).sz)) = some ⟨ad.block, ad.off + i, none⟩ := by
    show some (ad.add (i * 1)) = _
    obtain ⟨j, rfl⟩ : ∃ j, i = j + 1 := ⟨i - 1, by omega⟩
    rw [Nat.mul_one]
    unfold Addr.add
    rfl
  rw [had] at hcd
  have hdl : (b.drop i).length = n := by rw [List.length_drop]; omega
  have h := layout_taken.calls (some ⟨ad.block, ad.off + i, none⟩) c' (b.drop i) (at2 b i) w hcd (by omega) (taken_eval hb i hl hi)
  rw [hdl] at h
  exact h.mono fun e w' h => ⟨h.1, h.2.below⟩
theorem taken_add (b : List Int) (ad : Addr) (i n c' : Nat) (w : World) (hb : Bytes b) (hl : b.length ≤ 1000) (hr : (Kd.int .u8).C w (some ad) b.length b) (hi : i + 1 < b.length) (hi1 : 1 ≤ i) (hn : n = b.length - i) (hc : n ≤ c') :
    Calls Tryd.prog 50 #[.slice (some (ad.add i)) n c'] w fun e w' => e = .returned (.int .i64 (at2 b i)) ∧ Below w.heap.size w w' := by
  have had : ad.add i = ⟨ad.block, ad.off + i, none⟩ := by
    obtain ⟨j, rfl⟩ : ∃ j, i = j + 1 := ⟨i - 1, by omega⟩
    unfold Addr.add
    rfl
  rw [had]
  exact taken_any b ad i n c' w hb hl hr hi hi1 hn hc
/-- What TakeNode promises. -/
def TakePost (b : List Int) (w : World) (e : Ending) (w' : World) : Prop := ∃ v, e = .returned (.tuple #[.agg #[.int .i64 (takeNode b).1.kind, .int .i64 (takeNode b).1.mode, .int .i64 (takeNode b).1.size, v, .int .i64 (takeNode b).1.more], .int .i64 (takeNode b).2.1, .int .i64 (takeNode b).2.2]) ∧
  (Kd.int .i64).R 3 w' w.heap.size (fun k => w.heap.size ≤ k) v (takeNode b).1.blocks ∧ Below w.heap.size w w'
set_option maxRecDepth 100000 in
set_option maxHeartbeats 4000000 in
theorem take_short (b : List Int) (A : Option Addr) (c : Nat) (w : World) (hl : b.length ≠ 32) :
    Calls Tryd.prog 15 #[.slice A b.length c] w (TakePost b w) := by
  have HT := Lib.hid (show takeNode b = (Ino.zero, 0, 4) by unfold takeNode goodNode; rw [decide_eq_false hl]; rfl)
  obtain ⟨W0, hW0⟩ : ∃ W0, w.alloc (.cells #[.int .i64 0, .int .i64 0, .int .i64 0, .slice none 0 0, .int .i64 0] 32) = W0 := ⟨_, rfl⟩
  have hB0 : Below w.heap.size w W0 := by rw [← hW0]; exact below_alloc (Below.refl _ _) _
  have x0 : W0.heap[w.heap.size]? = some (.cells #[.int .i64 0, .int .i64 0, .int .i64 0, .slice none 0 0, .int .i64 0] 32 (0, 0)) := by rw [← hW0]; exact blk_new _ _
  obtain ⟨W1, W2, W3, W4, W5, e1, e2, e3, e4, e5, ⟨f0, f1, f2, f3, f4, f5, f6, f7, f8, f9⟩, hx5, hs5, hg5⟩ := five_cells x0 (.int .i64 0) (.int .i64 0) (.int .i64 0) (.slice none 0 0) (.int .i64 0)
  have p0 : W0.cell? ⟨w.heap.size, 1, none⟩ = some (.int .i64 0) := (blk_cell x0 1).trans rfl
  have p1 : W0.cell? ⟨w.heap.size, 2, none⟩ = some (.int .i64 0) := (blk_cell x0 2).trans rfl
  have p2 : W0.cell? ⟨w.heap.size, 3, none⟩ = some (.slice none 0 0) := (blk_cell x0 3).trans rfl
  have p3 : W0.cell? ⟨w.heap.size, 4, none⟩ = some (.int .i64 0) := (blk_cell x0 4).trans rfl
  have hB5 := hB0.grown hg5 hB0.size (fun k hk => by have := Option.some.inj hk; omega)
  have HX := Lib.hid (And.intro hx5 hB5)
  have hd : ((b.length : Int) != 32) = true := by simp; omega
  clear x0 hB0 hB5 hg5 hx5 hs5 hl
  go_enter Tryd.func15, Tryd.ntmps15
  go_wp2
  obtain ⟨hx5, hB5⟩ := HX.out
  have q0 : W5.cell? ⟨w.heap.size, 0, none⟩ = some (.int .i64 0) := (blk_cell hx5 0).trans rfl
  have q1 : W5.cell? ⟨w.heap.size, 1, none⟩ = some (.int .i64 0) := (blk_cell hx5 1).trans rfl
  have q2 : W5.cell? ⟨w.heap.size, 2, none⟩ = some (.int .i64 0) := (blk_cell hx5 2).trans rfl
  have q3 : W5.cell? ⟨w.heap.size, 3, none⟩ = some (.slice none 0 0) := (blk_cell hx5 3).trans rfl
  have q4 : W5.cell? ⟨w.heap.size, 4, none⟩ = some (.int .i64 0) := (blk_cell hx5 4).trans rfl
  refine bodyPost_ret (v := .tuple #[.agg #[.int .i64 0, .int .i64 0, .int .i64 0, .slice none 0 0, .int .i64 0], .int .i64 0, .int .i64 4]) (by simp [results, Tryd.f15, go_sem, q0, q1, q2, q3, q4]) rfl ?_
  unfold TakePost
  rw [HT.out]
  exact ⟨_, rfl, Kd.R_nil _ _ _ _ _, hB5⟩
end Go.Proofs.YtmjmcmohicjfkaaDoor.lay
