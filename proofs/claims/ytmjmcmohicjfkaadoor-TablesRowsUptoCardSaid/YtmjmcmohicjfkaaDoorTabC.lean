import Derived.Test.YtmjmcmohicjfkaaDoorTabB
namespace Go.Proofs.YtmjmcmohicjfkaaDoor.tab
open Go.RowKit Go.Shelf mp Go.Proofs.YtmjmcmohicjfkaaDoorW.PrintWords

structure Row where
  f0 : ByteArray
  f1 : List ByteArray
def kRow : Kd Row := Kd.iso (Kd.pair Kd.string (Kd.slice 9 Kd.string)) (fun x : Row => (x.f0, x.f1))
theorem kRow_open {w : World} {x : Row} {cs : List Value} (h : kRow.K w x cs) : ∃ A1 c1, cs = [.string x.f0, .slice A1 x.f1.length c1] ∧ x.f1.length ≤ c1 ∧ Kd.string.C w A1 x.f1.length x.f1 := by
  obtain ⟨_, _, rfl, rfl, ⟨A1, c1, rfl, l1, g1⟩⟩ := h
  exact ⟨A1, c1, rfl, l1, g1⟩
def SmallRow (r : Row) : Prop := r.f0.size ≤ 9223372036854775807 ∧ ∀ c ∈ r.f1, c.size ≤ 9223372036854775807
def badCells (r : Row) : Bool := r.f1.any fun c => !(wordB c 64)
def checkRow (t : ByteArray) (r : Row) : Int :=
  if tabWidth t = 0 then 50 else if r.f0.toList.isEmpty = true ∨ wordB r.f0 32 = false ∨ (r.f1.length : Int) ≠ tabWidth t ∨ badCells r = true then 51 else 0

theorem enters_check1 : ∀ args w, (callFunc 69 args).run Tryd.prog w = .ok (.enter 69 args) w := enters_of Tryd.func69 (by kernel_rfl) rfl

theorem bad_any (A : Option Addr) (c : Nat) (r : Row) (w : World) (hs : SmallRow r) (hr : Kd.string.C w A r.f1.length r.f1) (hc : r.f1.length ≤ c) :
    Calls Tryd.prog 68 #[.slice A r.f1.length c, .func (.func 69) #[] #[]] w fun e w' => e = .returned (.bool (badCells r)) ∧ Below w.heap.size w w' :=
  containsFunc_str A c r.f1 (fun c => !(wordB c 64)) 69 #[] w enters_check1 hr hc (fun x hx W _ => check1_any x W (hs.2 x hx))

set_option maxHeartbeats 2000000 in
set_option maxRecDepth 100000 in
theorem check_any (t : ByteArray) (r : Row) (A : Option Addr) (c : Nat) (w : World) (hs : SmallRow r) (hr : Kd.string.C w A r.f1.length r.f1) (hc : r.f1.length ≤ c) :
    Calls Tryd.prog 33 #[.string t, .agg #[.string r.f0, .slice A r.f1.length c]] w fun e w' => e = .returned (.int .i64 (checkRow t r)) ∧ Below w.heap.size w w' := by
  have hkey := hs.1
  have HS := Lib.hid hs
  have HR := Lib.hid hr
  clear hr hs
  by_cases h0 : tabWidth t = 0
  · have HW := Lib.hid (show checkRow t r = 50 by simp [checkRow, h0])
    have hz : (tabWidth t == 0) = true := by simp [h0]
    clear h0
    go_enter Tryd.func33, Tryd.ntmps33
    go_wp2_with (go_at_call 34; refine (width_any t _).mono ?_; rintro e w1 ⟨rfl, hb⟩)
    go_ret
    exact ⟨ret_i HW.out.symm, (((Below.refl _ _).alloc (Nat.le_refl _) _).trans (hb.mono (by simp)))⟩
  · have hz : (tabWidth t == 0) = false := by simp [h0]
    have HBAD := Lib.hid (fun W (hb : Below w.heap.size w W) => bad_any A c r W HS.out (Kd.C_below HR.out hb) hc)
    have HWORD := Lib.hid (fun W => word_any r.f0 32 W hkey)
    have hcase : (r.f0.toList.isEmpty = true ∧ checkRow t r = 51) ∨ (r.f0.toList.isEmpty = false ∧ wordB r.f0 32 = false ∧ checkRow t r = 51) ∨ (r.f0.toList.isEmpty = false ∧ wordB r.f0 32 = true ∧ ((r.f1.length : Int) != tabWidth t) = true ∧ checkRow t r = 51) ∨
        (r.f0.toList.isEmpty = false ∧ wordB r.f0 32 = true ∧ ((r.f1.length : Int) != tabWidth t) = false ∧ badCells r = true ∧ checkRow t r = 51) ∨ (r.f0.toList.isEmpty = false ∧ wordB r.f0 32 = true ∧ ((r.f1.length : Int) != tabWidth t) = false ∧ badCells r = false ∧ checkRow t r = 0) := by
      cases e0 : r.f0.toList.isEmpty <;> cases e1 : wordB r.f0 32 <;> cases e2 : ((r.f1.length : Int) != tabWidth t) <;> cases e3 : badCells r <;> simp_all [checkRow]
    clear h0 hkey HS HR
    rcases hcase with ⟨e0, HE⟩ | ⟨e0, e1, HE⟩ | ⟨e0, e1, e2, HE⟩ | ⟨e0, e1, e2, e3, HE⟩ | ⟨e0, e1, e2, e3, HE⟩
    all_goals
      have HW := Lib.hid HE
      clear HE
      go_enter Tryd.func33, Tryd.ntmps33
      go_wp2_with (first
        | (go_at_call 34; refine (width_any t _).mono ?_; rintro e w1 ⟨rfl, hb⟩; have BK := blk_below (blk_new w _) hb; have c0 : w1.cell? ⟨w.heap.size, 0, none⟩ = some (.string r.f0) := (blk_cell BK 0).trans rfl; have c1 : w1.cell? ⟨w.heap.size, 1, none⟩ = some (.slice A r.f1.length c) := (blk_cell BK 1).trans rfl; have hB1 : Below w.heap.size w w1 := ((Below.refl _ _).alloc (Nat.le_refl _) _).trans (hb.mono (by simp)); clear hb)
        | (go_at_call 68; refine (HBAD.out _ hB1).mono ?_; rintro e w2 ⟨rfl, hb⟩; have BK2 := blk_below BK hb; have d0 : w2.cell? ⟨w.heap.size, 0, none⟩ = some (.string r.f0) := (blk_cell BK2 0).trans rfl; have d1 : w2.cell? ⟨w.heap.size, 1, none⟩ = some (.slice A r.f1.length c) := (blk_cell BK2 1).trans rfl; have hB2 := hB1.trans (hb.mono hB1.size); clear hb)
        | (go_at_call 70; refine (HWORD.out _).mono ?_; rintro e w3 ⟨rfl, hb⟩; have BK3 := blk_below BK2 hb; have f0 : w3.cell? ⟨w.heap.size, 0, none⟩ = some (.string r.f0) := (blk_cell BK3 0).trans rfl; have f1 : w3.cell? ⟨w.heap.size, 1, none⟩ = some (.slice A r.f1.length c) := (blk_cell BK3 1).trans rfl; have hB3 := hB2.trans (hb.mono hB2.size); clear hb))
      go_ret
      exact ⟨ret_i HW.out.symm, by assumption⟩
end Go.Proofs.YtmjmcmohicjfkaaDoor.tab
