import Derived.Test.YtmjmcmohicjfkaaDoorLayJ

/-
  Layout: Name, Path, Cost, Of.
-/
namespace Go.Proofs.YtmjmcmohicjfkaaDoor.lay
open Go.RowKit Go.Shelf Go.Proofs.YtmjmcmohicjfkaaDoorW.PrintWords Go.Proofs.YtmjmcmohicjfkaaDoorW.PrintMore Go.Proofs.YtmjmcmohicjfkaaDoor.PLayoutTakes Go.Proofs.YtmjmcmohicjfkaaDoor.tab
attribute [local go_sem] max2_int min2_int max_two min_two

def nletters : List UInt8 := [65, 66, 67, 68, 69, 70, 71, 72, 73, 74, 75, 76, 77, 78, 79, 80, 81, 82, 83, 84, 85, 86, 87, 88, 89, 90, 97, 98, 99, 100, 101, 102, 103, 104, 105, 106, 107, 108, 109, 110, 111, 112, 113, 114, 115, 116, 117, 118, 119, 120, 121, 122, 48, 49, 50, 51, 52, 53, 54, 55, 56, 57, 46, 95, 45]
def nlettersOnly (s : ByteArray) : Bool := s.data.toList.all fun c => nletters.contains c
def nameB (s : ByteArray) : Bool := !s.toList.isEmpty && decide ((s.size : Int) ≤ 28) && !(s.toList == [46]) && !(s.toList == [46, 46]) && nlettersOnly s
theorem trim_nletters (s : ByteArray) (w : World) (hs : s.size ≤ 9223372036854775807) :
    Calls Tryd.prog 80 #[.string s, .string ⟨#[65, 66, 67, 68, 69, 70, 71, 72, 73, 74, 75, 76, 77, 78, 79, 80, 81, 82, 83, 84, 85, 86, 87, 88, 89, 90, 97, 98, 99, 100, 101, 102, 103, 104, 105, 106, 107, 108, 109, 110, 111, 112, 113, 114, 115, 116, 117, 118, 119, 120, 121, 122, 48, 49, 50, 51, 52, 53, 54, 55, 56, 57, 46, 95, 45]⟩] w fun e w' => ∃ r : ByteArray, e = .returned (.string r) ∧ r.toList.isEmpty = nlettersOnly s ∧ Below w.heap.size w w' := by
  refine (Any.strings_Trim_laid Tryd.laysTrim160 (by kernel_rfl) s _ w hs (by decide) (ascii_of_all (by decide))).mono ?_
  rintro e w' ⟨rfl, hb⟩
  refine ⟨_, rfl, ?_, hb⟩
  have e1 : (⟨(Lib.trimS s.data.toList nletters).toArray⟩ : ByteArray).toList = Lib.trimS s.data.toList nletters := by
    exact ByteArray.toList_mk _
  show (⟨(Lib.trimS s.data.toList nletters).toArray⟩ : ByteArray).toList.isEmpty = _
  rw [e1]
  unfold nlettersOnly
  cases h : s.data.toList.all (fun c => nletters.contains c) with
  | true => rw [trim_nil _ _ h]; rfl
  | false =>
    cases ht : Lib.trimS s.data.toList nletters with
    | nil => rw [trim_not _ _ ht] at h; cases h
    | cons a l => rfl
set_option maxRecDepth 100000 in
set_option maxHeartbeats 2000000 in
theorem name_any (s : ByteArray) (w : World) (hs : s.size ≤ 9223372036854775807) : Calls Tryd.prog 58 #[.string s] w fun e w' => e = .returned (.bool (nameB s)) ∧ Below w.heap.size w w' := by
  have hdef : nameB s = (!s.toList.isEmpty && decide ((s.size : Int) ≤ 28) && !(s.toList == [46]) && !(s.toList == [46, 46]) && nlettersOnly s) := rfl
  cases e1 : s.toList.isEmpty with
  | true =>
    have HW := Lib.hid (show nameB s = false by rw [hdef, e1]; rfl)
    clear hdef
    go_enter Tryd.func58, Tryd.ntmps58
    go_wp2
    go_ret
    exact ⟨ret_b HW.out.symm, Below.refl _ _⟩
  | false =>
    cases e2 : decide ((s.size : Int) ≤ 28) with
    | false =>
      have HW := Lib.hid (show nameB s = false by rw [hdef, e1, e2]; rfl)
      clear hdef
      go_enter Tryd.func58, Tryd.ntmps58
      go_wp2
      go_ret
      exact ⟨ret_b HW.out.symm, Below.refl _ _⟩
    | true =>
      cases e3 : (s.toList == [46]) with
      | true =>
        have HW := Lib.hid (show nameB s = false by rw [hdef, e1, e2, e3]; rfl)
        clear hdef
        go_enter Tryd.func58, Tryd.ntmps58
        go_wp2
        go_ret
        exact ⟨ret_b HW.out.symm, Below.refl _ _⟩
      | false =>
        cases e4 : (s.toList == [46, 46]) with
        | true =>
          have HW := Lib.hid (show nameB s = false by rw [hdef, e1, e2, e3, e4]; rfl)
          clear hdef
          go_enter Tryd.func58, Tryd.ntmps58
          go_wp2
          go_ret
          exact ⟨ret_b HW.out.symm, Below.refl _ _⟩
        | false =>
          have HW := Lib.hid (show nameB s = nlettersOnly s by rw [hdef, e1, e2, e3, e4]; rfl)
          clear hdef
          go_enter Tryd.func58, Tryd.ntmps58
          go_wp2_with (go_at_call 80; refine (trim_nletters s _ hs).mono ?_; rintro e w1 ⟨r, rfl, hr, hb⟩)
          go_ret
          exact ⟨by rw [HW.out, ← hr]; first | rfl | simp, hb⟩
set_option maxRecDepth 100000 in
theorem cost_any (k s : Int) (w : World) (h : Shapes w) : Calls Tryd.prog 41 #[.int .i64 k, .int .i64 s] w fun e w' => e = .returned (.int .i64 (if 6 < blocksP k s then blocksP k s + 1 else max 0 (blocksP k s))) ∧ w' = w := by
  have HB := Lib.hid (blocks_any k s w h)
  have hr := blocksP_range k s
  generalize blocksP k s = n at *
  by_cases h6 : 6 < n
  · have hd : decide (6 < n) = true := decide_eq_true h6
    have h7 : 0 < n + 1 := by omega
    rw [if_pos h6]
    go_enter Tryd.func41, Tryd.ntmps41
    go_wp2_with (go_at_call 42; refine HB.out.mono ?_; rintro e w1 ⟨rfl, hw1⟩; rw [hw1]; clear hw1)
    go_ret
    exact ⟨ret_i (by omega), rfl⟩
  · have hd : decide (6 < n) = false := decide_eq_false h6
    rw [if_neg h6]
    by_cases h0 : 0 ≤ n
    · go_enter Tryd.func41, Tryd.ntmps41
      go_wp2_with (go_at_call 42; refine HB.out.mono ?_; rintro e w1 ⟨rfl, hw1⟩; rw [hw1]; clear hw1)
      go_ret
      exact ⟨ret_i (by omega), rfl⟩
    · have hn : n < 0 := by omega
      go_enter Tryd.func41, Tryd.ntmps41
      go_wp2_with (go_at_call 42; refine HB.out.mono ?_; rintro e w1 ⟨rfl, hw1⟩; rw [hw1]; clear hw1)
      go_ret
      exact ⟨ret_i (by omega), rfl⟩
end Go.Proofs.YtmjmcmohicjfkaaDoor.lay
