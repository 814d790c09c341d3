import Derived.Test.YtmjmcmohicjfkaaDoorLayK
import Derived.Lib.SplitLaws
/-
  Layout: Path, Of; the examples.
-/
namespace Go.Proofs.YtmjmcmohicjfkaaDoor.lay
open Go.RowKit Go.Shelf Go.Proofs.YtmjmcmohicjfkaaDoorW.PrintWords Go.Proofs.YtmjmcmohicjfkaaDoorW.PrintMore Go.Proofs.YtmjmcmohicjfkaaDoor.PLayoutTakes Go.Proofs.YtmjmcmohicjfkaaDoor.tab
attribute [local go_sem] max2_int min2_int max_two min_two

theorem str_pos {w : World} {A : Option Addr} {xs : List ByteArray} (h : Kd.string.C w A xs.length xs) (k : Nat) (hk : k < xs.length) : ∃ ad, A = some ad ∧ w.cell? (ad.add k) = some (.string xs[k]!) := by
  obtain ⟨ad, e, hc⟩ := Kd.at_string h (k : Int) (by omega) (by omega)
  refine ⟨ad, e, ?_⟩
  rw [Int.toNat_natCast] at hc
  rw [hc]
  simp only [rdOf, List.getD_eq_getElem?_getD, Int.toNat_natCast]
  rw [List.getElem?_eq_getElem hk, getElem!_pos xs k hk]; rfl
theorem str_blk {W : World} {g : Nat} {t : TypeId} {xs : List ByteArray} (h : W.heap[g]? = some (.cells (xs.map Value.string).toArray t (0, 0))) (hl : xs.length ≤ 9223372036854775807) : Kd.string.C W (some ⟨g, 0, none⟩) xs.length xs := by
  refine ⟨rfl, hl, fun _ => ⟨_, rfl, fun j p hj => ⟨[.string p], rfl, rfl, fun i u hu => ?_⟩⟩⟩
  obtain ⟨rfl, rfl⟩ : i = 0 ∧ u = .string p := by
    cases i with
    | zero => exact ⟨rfl, by simpa using hu.symm⟩
    | succ i => simp at hu
  rw [add_plain, Nat.add_zero, show j * Kd.string.sz = j from Nat.mul_one j, blk_cell h j]
  simp [hj]
def slash : ByteArray := ⟨#[47]⟩
def restOf (s : ByteArray) : ByteArray := ⟨(Lib.trimPrefix s.data.toList [47]).toArray⟩
def pathWords (s : ByteArray) : List ByteArray := Lib.splitB slash 0 (Lib.countB (restOf s) slash) (restOf s)
def pathBad (s : ByteArray) : Bool := (pathWords s).any fun n => !(nameB n)
def pathOk (s : ByteArray) : Bool := Lib.hasPrefix s.data.toList [47] && !(pathBad s) && !(decide (120 < (s.size : Int))) && !(decide (8 < ((pathWords s).length : Int)))
def pathP (s : ByteArray) : List ByteArray × Int := if (s.toList == [47]) = true then ([], 0) else if pathOk s = true then (pathWords s, 0) else ([], 40)
theorem enters_path1 : ∀ args w, (callFunc 75 args).run Tryd.prog w = .ok (.enter 75 args) w := enters_of Tryd.func75 (by kernel_rfl) rfl
theorem path1_any (s : ByteArray) (w : World) (hs : s.size ≤ 9223372036854775807) : Calls Tryd.prog 75 #[.string s] w fun e w' => e = .returned (.bool !(nameB s)) ∧ Below w.heap.size w w' := by
  go_enter Tryd.func75, Tryd.ntmps75
  go_wp2_with (go_at_call 58; refine (name_any s _ hs).mono ?_; rintro e w1 ⟨rfl, hb⟩)
  go_ret
  exact ⟨rfl, hb⟩
def PathPost (s : ByteArray) (w : World) (e : Ending) (w' : World) : Prop := ∃ A c, e = .returned (.tuple #[.slice A (pathP s).1.length c, .int .i64 (pathP s).2]) ∧ (pathP s).1.length ≤ c ∧ Kd.string.C w' A (pathP s).1.length (pathP s).1 ∧ Below w.heap.size w w'
set_option maxRecDepth 100000 in
set_option maxHeartbeats 2000000 in
theorem path_any (s : ByteArray) (w : World) (m : Int) (hs : s.size < 4294967281) (hrs : (restOf s).size < 4294967281) (hsz : ∀ y ∈ pathWords s, y.size ≤ 9223372036854775807) (hmax : (pathWords s).length ≤ 9223372036854775807) (hm : w.cell? ⟨1, 0, none⟩ = some (.int .i64 m)) :
    Calls Tryd.prog 40 #[.string s] w (PathPost s w) := by
  cases e0 : (s.toList == [47]) with
  | true =>
    have HW := Lib.hid (show pathP s = ([], 0) by unfold pathP; rw [e0]; rfl)
    go_enter Tryd.func40, Tryd.ntmps40
    go_wp2
    go_ret2
    unfold PathPost
    rw [HW.out]
    exact ⟨none, 0, rfl, Nat.le_refl _, ⟨rfl, by simp, fun h => by simp at h⟩, Below.refl _ _⟩
  | false =>
    have HP := Lib.hid (show pathP s = if pathOk s = true then (pathWords s, 0) else ([], 40) by unfold pathP; rw [e0, if_neg (by decide)])
    have HOK := Lib.hid (show pathOk s = (Lib.hasPrefix s.data.toList [47] && !(pathBad s) && !(decide (120 < (s.size : Int))) && !(decide (8 < ((pathWords s).length : Int)))) from rfl)
    have hlen : (pathWords s).length = Lib.countB (restOf s) slash + 1 := Lib.splitB_all slash (by decide) 0 _ (restOf s) rfl
    have HC := Lib.hid (Tryd.strings_CutPrefix s ⟨#[47]⟩ w)
    obtain ⟨W1, hW1⟩ : ∃ W1, w.alloc (.cells ((pathWords s).map Value.string).toArray 9) = W1 := ⟨_, rfl⟩
    have HSP := Lib.hid (show Calls Tryd.prog 65 #[.string (restOf s), .string slash] w (fun e w' => e = .returned (.slice (some ⟨w.heap.size, 0, none⟩) (pathWords s).length (pathWords s).length) ∧ w' = W1) from
      (Tryd.strings_Split (restOf s) slash m w hrs hm (by decide)).mono fun e w' ⟨he, hw⟩ => ⟨by rw [he, ← hlen], by rw [hw]; exact hW1⟩)
    have hblk : W1.heap[w.heap.size]? = some (.cells ((pathWords s).map Value.string).toArray 9 (0, 0)) := by rw [← hW1]; exact blk_new _ _
    have hC1 := str_blk hblk hmax
    have hB1 : Below w.heap.size w W1 := by rw [← hW1]; exact below_alloc (Below.refl _ _) _
    have HBAD := Lib.hid (containsFunc_str (some ⟨w.heap.size, 0, none⟩) (pathWords s).length (pathWords s) (fun n => !(nameB n)) 75 #[] W1 enters_path1 hC1 (Nat.le_refl _) (fun x hx W _ => path1_any x W (hsz x hx)))
    have HC1 := Lib.hid hC1
    have HB1 := Lib.hid hB1
    have HW1 := Lib.hid hW1
    have HLEN := Lib.hid hlen
    rw [show (pathWords s).any (fun n => !(nameB n)) = pathBad s from rfl] at HBAD
    clear hs hrs hsz hm hblk hC1 hB1 hW1 hlen
    go_enter Tryd.func40, Tryd.ntmps40
    go_wp2_with fail
    refine HC.out.mono ?_
    intro e w1 h1
    rw [h1.1, h1.2]
    clear h1
    go_wp2_with fail
    refine HSP.out.mono ?_
    intro e w2 h2
    rw [h2.1, h2.2]
    clear h2
    go_wp2_with fail
    refine HBAD.out.mono ?_
    rintro e w3 ⟨rfl, hb3⟩
    have HC3 := Lib.hid (Kd.C_below HC1.out hb3)
    have HB3 := Lib.hid (below_step HB1.out hb3)
    clear HBAD HSP HC hb3
    have fin : Unit → pathP s = ([], 40) → PathPost s w (.returned (.tuple #[.slice none 0 0, .int .i64 40])) w3 := fun _ hp => by
      unfold PathPost
      rw [hp]
      exact ⟨none, 0, rfl, Nat.le_refl _, ⟨rfl, by simp, fun h => by simp at h⟩, HB3.out⟩
    have FIN := Lib.hid fin
    clear fin
    generalize hws : pathWords s = ws at *
    generalize hok : Lib.hasPrefix s.data.toList [47] = ok at *
    generalize hbad : pathBad s = bad at *
    have HX := Lib.hid (And.intro hws (And.intro hok hbad))
    clear hws hok hbad hmax
    cases ok with
    | false =>
      have HE := Lib.hid (show pathP s = ([], 40) by rw [HP.out, HOK.out]; rfl)
      go_wp2
      go_ret2
      exact FIN.out () HE.out
    | true =>
      cases bad with
      | true =>
        have HE := Lib.hid (show pathP s = ([], 40) by rw [HP.out, HOK.out]; rfl)
        go_wp2
        go_ret2
        exact FIN.out () HE.out
      | false =>
        cases e1 : decide (120 < (s.size : Int)) with
        | true =>
          have HE := Lib.hid (show pathP s = ([], 40) by rw [HP.out, HOK.out, e1]; rfl)
          go_wp2
          go_ret2
          exact FIN.out () HE.out
        | false =>
          cases e2 : decide (8 < (ws.length : Int)) with
          | true =>
            have HE := Lib.hid (show pathP s = ([], 40) by rw [HP.out, HOK.out, e1, e2]; rfl)
            go_wp2
            go_ret2
            exact FIN.out () HE.out
          | false =>
            have HE := Lib.hid (show pathP s = (ws, 0) by rw [HP.out, HOK.out, e1, e2]; rfl)
            go_wp2
            go_ret2
            unfold PathPost
            rw [HE.out]
            exact ⟨_, _, rfl, Nat.le_refl _, HC3.out, HB3.out⟩
end Go.Proofs.YtmjmcmohicjfkaaDoor.lay
