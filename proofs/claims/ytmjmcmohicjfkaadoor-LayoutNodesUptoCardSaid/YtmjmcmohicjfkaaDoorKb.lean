import Derived.Test.YtmjmcmohicjfkaaDoorProg
import Derived.Test.YtmjmcmohicjfkaaDoorWMore
import Derived.Laws.BytesArg
import Derived.Lib.ConvBytes
import Derived.WalkKit
import Derived.KernelRfl
namespace Go.Proofs.YtmjmcmohicjfkaaDoor.kb
open Go.RowKit Go.Proofs.YtmjmcmohicjfkaaDoorW.PrintWords

/-- A slice of bytes. -/
def byte : Kd UInt8 := Kd.scalar (fun b => .int .u8 (b.toNat : Int)) (fun _ => rfl)
theorem at_byte {w : World} {A : Option Addr} {n : Nat} {l : List UInt8} (h : byte.C w A n l) (i : Nat) (hi : i < n) : ∃ ad, A = some ad ∧ w.cell? (ad.add i) = some (.int .u8 ((l.getD i 0).toNat : Int)) := by
  obtain ⟨ad, e, hc⟩ := ReadsOf.at_ (Kd.reads_of_C (enc := fun b : UInt8 => Value.int .u8 (b.toNat : Int)) (d := 0) (h1 := fun _ => rfl) h) i (by omega) (by omega)
  exact ⟨ad, e, by simpa [rdOf] using hc⟩
theorem spot_none {w : World} {ad : Addr} {v : Value} (h : w.cell? ad = some v) : ad = ⟨ad.block, ad.off, none⟩ := by
  obtain ⟨b, o, s⟩ := ad
  cases s with
  | none => rfl
  | some s =>
    simp [World.cell?] at h
    split at h <;> simp at h
theorem add_plain' (b o j : Nat) : (⟨b, o, none⟩ : Addr).add j = ⟨b, o + j, none⟩ := by unfold Addr.add; split <;> simp_all

theorem nil_C {w : World} {n : Nat} {l : List UInt8} (h : byte.C w none n l) : l = [] := by
  rcases Nat.eq_zero_or_pos n with h0 | h0
  · exact List.eq_nil_of_length_eq_zero (by have := h.1; omega)
  · obtain ⟨ad, e, _⟩ := h.2.2 h0
    cases e
/-- string(b). -/
theorem conv_string {w : World} {A : Option Addr} {c : Nat} {l : List UInt8} (h : byte.C w A l.length l) :
    (convert 24 9 (.slice A l.length c)).run Tryd.prog w = .ok (.string ⟨l.toArray⟩) w := by
  rcases Nat.eq_zero_or_pos l.length with h0 | h0
  · obtain rfl : l = [] := List.eq_nil_of_length_eq_zero h0
    cases A with
    | none => exact run_convert_bytes_nil w 24 5 Tryd.underlying24 Tryd.underlying5 _ _ 9 Tryd.underlying9
    | some ad =>
      rw [run_convert_bytes_string w 24 9 5 _ _ _ Tryd.underlying24 Tryd.underlying5 Tryd.underlying9]
      simp [Conv.bytesToString]
      rfl
  · obtain ⟨ad, rfl, hc0⟩ := at_byte h 0 h0
    have had := spot_none (ad := ad) (by simpa [Addr.add] using hc0)
    have hs : strOfNums (l.map fun b => ((b.toNat : Nat) : Int)) = ⟨l.toArray⟩ := by
      unfold strOfNums
      have e : ((fun n : Int => UInt8.ofNat n.toNat) ∘ fun b : UInt8 => ((b.toNat : Nat) : Int)) = id := by funext b; simp
      rw [List.map_map, e, List.map_id]
    rw [had, ← hs]
    refine run_convert_bytes_arg w 24 5 Tryd.underlying24 Tryd.underlying5 ad.block ad.off _ c _ (by simp) (fun i hi => ?_) 9 Tryd.underlying9
    obtain ⟨ad', e, hc⟩ := at_byte h i hi
    cases e
    rw [had, add_plain'] at hc
    rw [hc]
    simp [List.getD_eq_getElem?_getD, List.getElem?_eq_getElem hi]
/-- What []byte(s) makes. -/
theorem bytes_C (W : World) (s : ByteArray) (hs : s.size ≤ 9223372036854775807) : byte.C (Lib.bytesWorld W 5 s) (some ⟨W.heap.size, 0, none⟩) s.data.toList.length s.data.toList := by
  refine ⟨rfl, by rw [data_length]; exact hs, fun _ => ⟨_, rfl, fun j p hj => ⟨[.int .u8 (p.toNat : Int)], rfl, rfl, fun i u hu => ?_⟩⟩⟩
  obtain ⟨hi, rfl⟩ : i = 0 ∧ u = .int .u8 (p.toNat : Int) := by
    cases i with
    | zero => simpa using hu.symm
    | succ i => simp at hu
  subst hi
  have hlt : j < s.size := by rw [← data_length]; exact (List.getElem?_eq_some_iff.1 hj).1
  rw [show j * byte.sz + 0 = j by show j * 1 + 0 = j; omega, add_plain, Lib.bytesWorld_cell W 5 s j hlt]
  simp [List.getD_eq_getElem?_getD, hj]
end Go.Proofs.YtmjmcmohicjfkaaDoor.kb
