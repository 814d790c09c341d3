import Derived.Test.YtmjmcmohicjfkaaDoorArg
import Derived.Test.YtmjmcmohicjfkaaDoorBulk
import Derived.Lib.SmallJoins
/-
  Rows as an argument: their bulk.
-/
namespace Go.Proofs.YtmjmcmohicjfkaaDoor.arg
open Go.ChangeShapes Go.WideShapes Go.RowKit Go.Shelf Go.Deep Go.Joins Go.Proofs.YtmjmcmohicjfkaaDoorW.PrintWords Go.Proofs.YtmjmcmohicjfkaaDoor.tab
section
variable {H : Type} {enc : TypeId × Value → H} {W : World} {base : Nat} {sp : Nat → Bool} {held : Bool}

theorem strs_bulk {fuel : Nat} {cs : List Value} {x : DataW H × List MemPlace} (h : DataW.trod enc Tryd.prog W base sp held fuel 50 cs = some x) :
    ∀ A n c, cs = [.slice A n c] → n ≤ Rows.uptoBulk x.1 := by
  intro A n c hcs
  rcases open_strs Tryd.underlying50 Tryd.underlying9 (by kernel_rfl) h with ⟨rfl, rfl⟩ | ⟨a, len, cap, m, Sx, rfl, hb, hl, hm, hmm, rfl, hx⟩
  · simp at hcs; omega
  · simp only [List.cons.injEq, Value.slice.injEq, and_true] at hcs
    have := bulks.slice_le ((List.range len).map fun i => DataW.lit (H := H) (.string (Sx i).data.toList)) ((List.range (m - len)).map fun j => .lit (.string (Sx (len + j)).data.toList))
    simp only [List.length_map, List.length_range] at this
    show n ≤ Rows.uptoBulk (DataW.slice _ _)
    omega
theorem rows_bulk {fuel : Nat} {cs : List Value} {x : DataW H × List MemPlace} (h : DataW.trod enc Tryd.prog W base sp held fuel 22 cs = some x) :
    ∃ A c, ∃ xs : List Row, cs = [.slice A xs.length c] ∧ xs.length ≤ c ∧ kRow.C W A xs.length xs ∧ (∀ r ∈ xs, SmallRow r) ∧ xs.length ≤ Rows.uptoBulk x.1 ∧ ∀ r ∈ xs, r.f1.length ≤ Rows.uptoBulk x.1 := by
  obtain ⟨A, c, xs, e1, hc, hC, hS⟩ := rows_read h
  refine ⟨A, c, xs, e1, hc, hC, hS, ?_⟩
  rcases open_slice_pairs Tryd.underlying22 Tryd.underlying52 (by kernel_rfl) rfl rfl (by kernel_rfl) (by kernel_rfl) h with ⟨rfl, rfl⟩ | ⟨a, len, cap, m, n, V0, V1, D0, D1, P0, P1, rfl, hb, hl, hm, hmm, rfl, hx⟩
  · have e2 : xs.length = 0 := by simp at e1; omega
    obtain rfl : xs = [] := List.eq_nil_of_length_eq_zero e2
    exact ⟨by simp, by simp⟩
  · have hlm : len ≤ m := by rw [hmm]; split <;> omega
    simp only [List.cons.injEq, Value.slice.injEq, and_true] at e1
    obtain ⟨rfl, rfl, rfl⟩ := e1
    have hle := bulks.slice_le ((List.range xs.length).map fun i => DataW.agg (H := H) [D0 i, D1 i]) ((List.range (m - xs.length)).map fun j => .agg [D0 (xs.length + j), D1 (xs.length + j)])
    simp only [List.length_map, List.length_range] at hle
    refine ⟨by show xs.length ≤ Rows.uptoBulk (DataW.slice _ _); omega, fun r hr => ?_⟩
    obtain ⟨i, hi, rfl⟩ := List.getElem_of_mem hr
    obtain ⟨_, h1, _, h3⟩ := hx i (by omega)
    obtain ⟨ad, A1, c1, e, _, r1, _, _⟩ := at_Row hC i hi
    obtain rfl := Option.some.inj e
    rw [← add_field _ _ 1 (by omega), h1, getElem!_pos xs i hi] at r1
    have h4 := strs_bulk h3 _ _ _ (by rw [Option.some.inj r1])
    have h5 : Rows.uptoBulk (D1 i) ≤ Rows.uptoBulk (DataW.agg [D0 i, D1 i]) := by simp only [Rows.uptoBulk, Rows.uptoBulkAll]; omega
    have h6 := bulks.part_le (d := DataW.agg [D0 i, D1 i]) (l := (List.range xs.length).map fun i => DataW.agg (H := H) [D0 i, D1 i]) (List.mem_map.2 ⟨i, List.mem_range.2 hi, rfl⟩)
    have h7 := bulks.slice_elems ((List.range xs.length).map fun i => DataW.agg (H := H) [D0 i, D1 i]) ((List.range (m - xs.length)).map fun j => .agg [D0 (xs.length + j), D1 (xs.length + j)])
    have h4' : xs[i].f1.length ≤ Rows.uptoBulk (D1 i) := h4
    show xs[i].f1.length ≤ Rows.uptoBulk (DataW.slice _ _)
    omega
set_option maxRecDepth 100000 in
/-- One row, by value. -/
theorem row_read {r : Reach} {b0 : Nat} {v : Value} {d : DataW H} {p : List MemPlace} (hv : Value.okWide Tryd.prog W r b0 52 v) (h : DataW.Trod enc Tryd.prog W base sp held 52 v d p) :
    ∃ (x : Row) (A : Option Addr) (c : Nat), v = .agg #[.string x.f0, .slice A x.f1.length c] ∧ x.f1.length ≤ c ∧ Kd.string.C W A x.f1.length x.f1 ∧ x.f1.length ≤ Rows.uptoBulk d := by
  obtain ⟨v0, v1, y0, y1, n, rfl, rfl, rfl, h0, h1⟩ := open_agg2 Tryd.underlying52 (by kernel_rfl) (by kernel_rfl) hv h
  obtain ⟨s, e0, _, _⟩ := DataW.trod_string Tryd.underlying9 h0
  obtain ⟨A, c, xs, e1, hc, hC, _⟩ := strs_read h1
  have h4 := strs_bulk h1 _ _ _ e1
  simp only [List.cons.injEq, and_true] at e0 e1
  subst e0; subst e1
  refine ⟨⟨s, xs⟩, A, c, rfl, hc, hC, ?_⟩
  simp only [Rows.uptoBulk, Rows.uptoBulkAll]
  show xs.length ≤ _
  omega
end
end Go.Proofs.YtmjmcmohicjfkaaDoor.arg
