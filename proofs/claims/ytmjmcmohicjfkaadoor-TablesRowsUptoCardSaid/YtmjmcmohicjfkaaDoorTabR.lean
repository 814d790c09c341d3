import Derived.Test.YtmjmcmohicjfkaaDoorTabQ
/-
  The reference's Get.
-/
namespace Go.Proofs.YtmjmcmohicjfkaaDoor.tab
open Go.RowKit Go.Shelf Go.Proofs.YtmjmcmohicjfkaaDoorW.PrintWords

theorem getP_at {l : List Row} {key : ByteArray} {k : Nat} (hk : k < l.length) (hn : NoneYet (fun r : Row => r.f0.toList == key.toList) l k) (hp : (l[k].f0.toList == key.toList) = true) : getP l key = some l[k] := by
  unfold getP
  exact List.find?_eq_some_iff_getElem.2 ⟨hp, k, hk, rfl, fun j hj => by simpa using hn j hj (by omega)⟩
theorem getP_none {l : List Row} {key : ByteArray} (hn : NoneYet (fun r : Row => r.f0.toList == key.toList) l l.length) : getP l key = none := by
  unfold getP
  refine List.find?_eq_none.2 (fun x hx => ?_)
  obtain ⟨i, hi, rfl⟩ := List.getElem_of_mem hx
  simpa using hn i hi hi

set_option maxRecDepth 100000 in
set_option maxHeartbeats 2000000 in
theorem refGet_any (l : List Row) (key : ByteArray) (A : Option Addr) (c : Nat) (w : World) (hr : kRow.C w A l.length l) :
    Calls Tryd.prog 26 #[.slice A l.length c, .string key] w fun e w' => ∃ (r : Row) (B : Option Addr) (cc : Nat), e = .returned (.tuple #[.agg #[.string r.f0, .slice B r.f1.length cc], .bool (getP l key).isSome]) ∧ r.f1.length ≤ cc ∧ Kd.string.C w' B r.f1.length r.f1 ∧ (getP l key).getD ⟨⟨#[]⟩, []⟩ = r ∧ Below w.heap.size w w' := by
  have HR := Lib.hid hr
  have la : l.length ≤ 9223372036854775807 := hr.2.1
  clear hr
  obtain ⟨W0, hW0⟩ : ∃ W0, w.alloc (.cells #[.string ⟨#[]⟩, .slice none 0 0] 52) = W0 := ⟨_, rfl⟩
  have hB0 : Below w.heap.size w W0 := by rw [← hW0]; exact below_alloc (Below.refl _ _) _
  have x1 : W0.heap[w.heap.size]? = some (.cells #[.string ⟨#[]⟩, .slice none 0 0] 52 (0, 0)) := by rw [← hW0]; exact blk_new _ _
  have HX := Lib.hid x1
  clear x1
  go_enter Tryd.func26, Tryd.ntmps26
  go_wp2
  go_loopw [6] (fun i wr => ∃ k : Nat, k ≤ l.length ∧ i = .int .i64 k ∧ NoneYet (fun r : Row => r.f0.toList == key.toList) l k ∧ Below W0.heap.size W0 wr) (fun i _ => l.length - (intOf i).toNat)
  case atStart => exact ⟨0, Nat.zero_le _, rfl, fun j hj => by omega, Below.refl _ _⟩
  case round =>
    obtain ⟨k, hk, rfl, hn, hb⟩ := hrel
    have y1 := blk_below HX.out hb
    by_cases hlt : k < l.length
    · have hd : decide ((k : Int) < (l.length : Int)) = true := decide_eq_true (by omega)
      have hx : l[k]! = l[k] := getElem!_pos l k hlt
      obtain ⟨ad, A1, c1, rfl, r0, r1, hFK⟩ := at_FK HR.out (below_step hB0 hb) k hlt
      rw [hx] at r0 r1 hFK
      have HG := Lib.hid (fun hp => getP_at hlt hn (key := key) hp)
      have HN := Lib.hid (fun hp : (l[k].f0.toList == key.toList) = false => hn.succ hlt hp)
      have HC := Lib.hid hFK
      clear hx hn hFK
      generalize l[k] = r at *
      obtain ⟨w3, w4, hw3, hw4, f0, f1, f2, f3, f4, f5, hb4, ho4⟩ := two_cells y1 (.string r.f0) (.slice A1 r.f1.length c1)
      clear y1
      go_wp2
      · rename_i hq
        refine bodyPost_ret (v := .tuple #[.agg #[.string r.f0, .slice A1 r.f1.length c1], .bool true]) (by simp [results, Tryd.f26, go_sem, f4, f5]) rfl ?_
        rw [HG.out hq]
        obtain ⟨A3, c3, e3, hc3, hC3⟩ := kRow_open (Kd.FK_now (Kd.FK_step HC.out (W1 := w4) (fun k hk _ => ho4 k (by omega))))
        simp only [List.cons.injEq, Value.slice.injEq, true_and, and_true] at e3
        obtain ⟨rfl, rfl⟩ := e3
        exact ⟨r, A1, c1, rfl, hc3, hC3, rfl, hb4 w (below_step hB0 hb) (Nat.le_refl _)⟩
      · rename_i hq
        go_roundw
        case rel => exact ⟨k + 1, by omega, by go_num, HN.out (by simpa using hq), hb⟩
        case measure => simp [intOf]; omega
    · obtain rfl : k = l.length := by omega
      have hd : decide ((l.length : Int) < (l.length : Int)) = false := decide_eq_false (by omega)
      have HG := Lib.hid (getP_none hn)
      obtain ⟨w3, w4, hw3, hw4, f0, f1, f2, f3, f4, f5, hb4, ho4⟩ := two_cells y1 (.string ⟨#[]⟩) (.slice none 0 0)
      clear y1
      go_wp2
      refine bodyPost_ret (v := .tuple #[.agg #[.string ⟨#[]⟩, .slice none 0 0], .bool false]) (by simp [results, Tryd.f26, go_sem, f4, f5]) rfl ?_
      rw [HG.out]
      exact ⟨⟨⟨#[]⟩, []⟩, none, 0, rfl, Nat.le_refl _, ⟨rfl, by simp, fun h => by simp at h⟩, rfl, hb4 w (below_step hB0 hb) (Nat.le_refl _)⟩
end Go.Proofs.YtmjmcmohicjfkaaDoor.tab
