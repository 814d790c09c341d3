import Derived.Test.YtmjmcmohicjfkaaDoorTabJ
/-
  slices.IndexFunc over rows; the two functions that are handed to it.
-/
namespace Go.Proofs.YtmjmcmohicjfkaaDoor.tab
open Go.RowKit Go.Shelf Go.Proofs.YtmjmcmohicjfkaaDoorW.PrintWords

set_option maxHeartbeats 1000000 in
set_option maxRecDepth 100000 in
theorem indexFunc_row (A : Option Addr) (c : Nat) (xs : List Row) (p : Row → Bool) (g : Nat) (lb : Array Value) (w : World) (eg : ∀ args w, (callFunc g args).run Tryd.prog w = .ok (.enter g args) w)
    (hr : kRow.C w A xs.length xs) (hp : ∀ (x : Row) A1 c1 W, Below w.heap.size w W → Kd.string.C W A1 x.f1.length x.f1 → Calls Tryd.prog g (#[.agg #[.string x.f0, .slice A1 x.f1.length c1]] ++ lb) W fun e W' => e = .returned (.bool (p x)) ∧ Below W.heap.size W W') :
    Calls Tryd.prog 59 #[.slice A xs.length c, .func (.func g) #[] lb] w fun e w' => e = .returned (.int .i64 (idxP p xs)) ∧ Below w.heap.size w w' := by
  have hmax : xs.length ≤ 9223372036854775807 := hr.2.1
  have HR := Lib.hid hr
  clear hr
  go_enter Tryd.func59, Tryd.ntmps59
  go_wp2
  go_loopw [5, 8] (fun u i wr => ∃ k : Nat, k ≤ xs.length ∧ i = .int .i64 k ∧ NoneYet p xs k ∧ Below w.heap.size w wr) (fun _ i _ => xs.length - (intOf i).toNat)
  case atStart => exact ⟨0, Nat.zero_le _, rfl, fun j hj => by omega, Below.refl _ _⟩
  case round =>
    obtain ⟨k, hk, rfl, hn, hB⟩ := hrel
    by_cases hlt : k < xs.length
    · obtain ⟨ad, A1, c1, rfl, r0, r1, hc1, hC1⟩ := at_Row (Kd.C_below HR.out hB) k hlt
      have hx : xs[k]! = xs[k] := getElem!_pos xs k hlt
      rw [hx] at r0 r1 hc1 hC1
      have hpk := hp xs[k] A1 c1 wr hB hC1
      have HP := Lib.hid hpk
      clear hpk hp hC1 hx
      cases hv : p xs[k] with
      | true =>
        have hres := idxP_at hlt hv (fun j hj => hn j hj (by omega))
        rw [hv] at HP
        clear hv hn
        have HRES := Lib.hid hres
        clear hres
        go_wp2_with (go_at_fn g; refine HP.out.mono ?_; rintro e w1 ⟨rfl, hb⟩)
        go_ret
        exact ⟨ret_i HRES.out.symm, hB.trans (hb.mono hB.size)⟩
      | false =>
        have hn' := hn.succ hlt hv
        rw [hv] at HP
        clear hv hn
        go_wp2_with (go_at_fn g; refine HP.out.mono ?_; rintro e w1 ⟨rfl, hb⟩)
        go_roundw
        case rel => exact ⟨k + 1, by omega, by go_num, hn', hB.trans (hb.mono hB.size)⟩
        case measure => simp [intOf]; omega
    · have hres := idxP_none (p := p) (xs := xs) (fun j hj => hn j (by omega) hj)
      have HRES := Lib.hid hres
      clear hres hp
      go_wp2
      go_ret
      exact ⟨ret_i HRES.out.symm, hB⟩

theorem enters_set1 : ∀ args w, (callFunc 60 args).run Tryd.prog w = .ok (.enter 60 args) w := enters_of Tryd.func60 (by kernel_rfl) rfl
theorem enters_get1 : ∀ args w, (callFunc 63 args).run Tryd.prog w = .ok (.enter 63 args) w := enters_of Tryd.func63 (by kernel_rfl) rfl
/-- a comes behind b. -/
def gtB (a b : ByteArray) : Bool := !Op.bytesLess a.toList b.toList && !(a.toList == b.toList)

set_option maxRecDepth 100000 in
theorem set1_any (x : Row) (A1 : Option Addr) (c1 g : Nat) (key : ByteArray) (w : World) (hk : w.cell? ⟨g, 0, none⟩ = some (.string key)) :
    Calls Tryd.prog 60 #[.agg #[.string x.f0, .slice A1 x.f1.length c1], .pointer (some ⟨g, 0, none⟩)] w fun e w' => e = .returned (.bool (gtB x.f0 key)) ∧ Below w.heap.size w w' := by
  have hk2 := pw_cell_below (below_alloc (Below.refl _ _) (.cells #[.string x.f0, .slice A1 x.f1.length c1] 52)) hk
  go_enter Tryd.func60, Tryd.ntmps60
  go_wp2
  go_ret
  exact ⟨rfl, below_alloc (Below.refl _ _) _⟩
set_option maxRecDepth 100000 in
theorem get1_any (x : Row) (A1 : Option Addr) (c1 g : Nat) (key : ByteArray) (w : World) (hk : w.cell? ⟨g, 0, none⟩ = some (.string key)) :
    Calls Tryd.prog 63 #[.agg #[.string x.f0, .slice A1 x.f1.length c1], .pointer (some ⟨g, 0, none⟩)] w fun e w' => e = .returned (.bool (x.f0.toList == key.toList)) ∧ Below w.heap.size w w' := by
  have hk2 := pw_cell_below (below_alloc (Below.refl _ _) (.cells #[.string x.f0, .slice A1 x.f1.length c1] 52)) hk
  go_enter Tryd.func63, Tryd.ntmps63
  go_wp2
  go_ret
  exact ⟨rfl, below_alloc (Below.refl _ _) _⟩
end Go.Proofs.YtmjmcmohicjfkaaDoor.tab
