import Derived.Test.YtmjmcmohicjfkaaDoorTabC
import Derived.Test.YtmjmcmohicjfkaaDoorTabH
import Derived.ProofKit
import Derived.Deep.SlicePairs
import Derived.Deep.Strs
/-
  Rows as an argument: what is read of them.
-/
namespace Go.Proofs.YtmjmcmohicjfkaaDoor.arg
open Go.ChangeShapes Go.WideShapes Go.RowKit Go.Shelf Go.Deep Go.Proofs.YtmjmcmohicjfkaaDoorW.PrintWords Go.Proofs.YtmjmcmohicjfkaaDoor.tab
section
variable {H : Type} {enc : TypeId × Value → H} {W : World} {base : Nat} {sp : Nat → Bool} {held : Bool}

theorem strs_read {fuel : Nat} {cs : List Value} {x : DataW H × List MemPlace} (h : DataW.trod enc Tryd.prog W base sp held fuel 50 cs = some x) :
    ∃ A c, ∃ xs : List ByteArray, cs = [.slice A xs.length c] ∧ xs.length ≤ c ∧ Kd.string.C W A xs.length xs ∧ ∀ y ∈ xs, y.size ≤ 9223372036854775807 := by
  rcases open_strs Tryd.underlying50 Tryd.underlying9 (by kernel_rfl) h with ⟨rfl, _⟩ | ⟨a, len, cap, m, Sx, rfl, hb, hl, hm, hmm, rfl, hx⟩
  · exact ⟨none, 0, [], rfl, Nat.le_refl _, ⟨rfl, by simp, fun h => by simp at h⟩, by simp⟩
  · have hlm : len ≤ m := by rw [hmm]; split <;> omega
    have hml : maxLen = 9223372036854775807 := by decide
    refine ⟨some a, cap, (List.range len).map Sx, by simp, by simpa using hl, ⟨rfl, by simp; omega, fun _ => ⟨a, rfl, fun j p hj => ⟨[.string p], rfl, rfl, fun i u hu => ?_⟩⟩⟩, ?_⟩
    · obtain ⟨rfl, rfl⟩ : i = 0 ∧ u = .string p := by
        cases i with
        | zero => exact ⟨rfl, by simpa using hu.symm⟩
        | succ i => simp at hu
      obtain ⟨hj1, hj2⟩ := List.getElem?_eq_some_iff.1 hj
      simp only [List.length_map, List.length_range] at hj1
      simp only [List.getElem_map, List.getElem_range] at hj2
      subst hj2
      rw [Nat.add_zero, show j * Kd.string.sz = j from Nat.mul_one j]
      exact (hx j (by omega)).1
    · intro y hy
      obtain ⟨i, hi, rfl⟩ := List.mem_map.1 hy
      have := (hx i (by have := List.mem_range.1 hi; omega)).2
      omega

theorem rows_read {fuel : Nat} {cs : List Value} {x : DataW H × List MemPlace} (h : DataW.trod enc Tryd.prog W base sp held fuel 22 cs = some x) :
    ∃ A c, ∃ xs : List Row, cs = [.slice A xs.length c] ∧ xs.length ≤ c ∧ kRow.C W A xs.length xs ∧ ∀ r ∈ xs, SmallRow r := by
  have hml : maxLen = 9223372036854775807 := by decide
  rcases open_slice_pairs Tryd.underlying22 Tryd.underlying52 (by kernel_rfl) rfl rfl (by kernel_rfl) (by kernel_rfl) h with ⟨rfl, _⟩ | ⟨a, len, cap, m, n, V0, V1, D0, D1, P0, P1, rfl, hb, hl, hm, hmm, rfl, hx⟩
  · exact ⟨none, 0, [], rfl, Nat.le_refl _, ⟨rfl, by simp, fun h => by simp at h⟩, by simp⟩
  · have hlm : len ≤ m := by rw [hmm]; split <;> omega
    have each : ∀ i, i < m → ∃ r : Row, SmallRow r ∧ V0 i = .string r.f0 ∧ ∃ A c, V1 i = .slice A r.f1.length c ∧ r.f1.length ≤ c ∧ Kd.string.C W A r.f1.length r.f1 := by
      intro i hi
      obtain ⟨_, _, h2, h3⟩ := hx i hi
      obtain ⟨s, e0, _, hs⟩ := DataW.trod_string Tryd.underlying9 h2
      obtain ⟨A, c, xs, e1, hc, hC, hy⟩ := strs_read h3
      exact ⟨⟨s, xs⟩, ⟨by show s.size ≤ _; omega, hy⟩, by simpa using e0, A, c, by simpa using e1, hc, hC⟩
    obtain ⟨R, hR⟩ := choose_lt each
    refine ⟨some a, cap, (List.range len).map R, by simp, by simpa using hl, ⟨rfl, by simp; omega, fun _ => ⟨a, rfl, fun j p hj => ?_⟩⟩, ?_⟩
    · obtain ⟨hj1, hj2⟩ := List.getElem?_eq_some_iff.1 hj
      simp only [List.length_map, List.length_range] at hj1
      simp only [List.getElem_map, List.getElem_range] at hj2
      subst hj2
      obtain ⟨_, e0, A, c, e1, hc, hC⟩ := hR j (by omega)
      obtain ⟨h0, h1, _, _⟩ := hx j (by omega)
      refine ⟨[.string (R j).f0, .slice A (R j).f1.length c], rfl, ⟨[.string (R j).f0], [.slice A (R j).f1.length c], rfl, rfl, A, c, rfl, hc, hC⟩, fun i u hu => ?_⟩
      rw [show j * kRow.sz = j * 2 from rfl]
      match i with
      | 0 => simp at hu; subst hu; rw [← e0]; exact h0
      | 1 => simp at hu; subst hu; rw [← e1]; exact h1
      | i + 2 => simp at hu
    · intro r hr
      obtain ⟨i, hi, rfl⟩ := List.mem_map.1 hr
      exact (hR i (by have := List.mem_range.1 hi; omega)).1
end
end Go.Proofs.YtmjmcmohicjfkaaDoor.arg
