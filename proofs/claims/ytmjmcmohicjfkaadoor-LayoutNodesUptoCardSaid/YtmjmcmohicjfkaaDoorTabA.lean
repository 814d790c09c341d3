import Derived.Test.YtmjmcmohicjfkaaDoorProg
import Derived.Test.YtmjmcmohicjfkaaDoorShp
import Derived.Test.YtmjmcmohicjfkaaDoorMp
import Derived.Test.YtmjmcmohicjfkaaDoorWMore
import Derived.WalkKit
import Derived.KernelRfl
import Derived.Lib.Hide
import Derived.Below
import Derived.Outline
import Derived.BigQuiet
import Derived.Deep.QuietTactic
namespace Go.Proofs.YtmjmcmohicjfkaaDoor.tab
open Go.RowKit Go.Lib Go.Shelf mp

theorem Tryd.zero3 (w : World) : (zeroValue 3).run Tryd.prog w = .ok (.int .i64 0) w := by kernel_rfl

/-! ### Width -/
def widthsL : List (ByteArray × Value) := [(⟨#[97, 99, 99, 111, 117, 110, 116, 115]⟩, .int .i64 3), (⟨#[103, 114, 111, 117, 112, 115]⟩, .int .i64 1), (⟨#[112, 97, 99, 107, 97, 103, 101, 115]⟩, .int .i64 1), (⟨#[115, 101, 114, 118, 105, 99, 101, 115]⟩, .int .i64 2), (⟨#[102, 97, 99, 116, 115]⟩, .int .i64 1)]
def tabWidth (t : ByteArray) : Int :=
  if t = ⟨#[97, 99, 99, 111, 117, 110, 116, 115]⟩ then 3 else if t = ⟨#[103, 114, 111, 117, 112, 115]⟩ then 1 else if t = ⟨#[112, 97, 99, 107, 97, 103, 101, 115]⟩ then 1 else if t = ⟨#[115, 101, 114, 118, 105, 99, 101, 115]⟩ then 2 else if t = ⟨#[102, 97, 99, 116, 115]⟩ then 1 else 0
theorem aget_widths (t : ByteArray) : (aget widthsL t).getD (.int .i64 0) = .int .i64 (tabWidth t) := by
  unfold tabWidth widthsL aget
  simp only [List.find?]
  by_cases h1 : t = ⟨#[97, 99, 99, 111, 117, 110, 116, 115]⟩
  · subst h1; simp
  by_cases h2 : t = ⟨#[103, 114, 111, 117, 112, 115]⟩
  · subst h2; simp
  by_cases h3 : t = ⟨#[112, 97, 99, 107, 97, 103, 101, 115]⟩
  · subst h3; simp
  by_cases h4 : t = ⟨#[115, 101, 114, 118, 105, 99, 101, 115]⟩
  · subst h4; simp
  by_cases h5 : t = ⟨#[102, 97, 99, 116, 115]⟩
  · subst h5; simp
  simp [h1, h2, h3, h4, h5, Ne.symm h1, Ne.symm h2, Ne.symm h3, Ne.symm h4, Ne.symm h5]

set_option maxRecDepth 100000 in
theorem widths_any (w : World) : Calls Tryd.prog 71 #[] w fun e w' => ∃ b, e = .returned (.map (some b)) ∧ IsMap Value.string w' b widthsL ∧ Below w.heap.size w w' := by
  have hmm := @run_makeMap Tryd.prog
  have h0 : IsMap Value.string (w.alloc (.map #[] 0)) w.heap.size [] := IsMap.made w
  go_enter Tryd.func71, Tryd.ntmps71
  go_wp2_with (first
    | (refine wp_insert _ rfl _ _ _ 106 rfl 9 3 strKey Tryd.underlying106 Tryd.underlying9 w.heap.size _ rfl h0 ⟨#[97, 99, 99, 111, 117, 110, 116, 115]⟩ (.int .i64 3) rfl rfl ?_; intro w1 h1 g1 s1)
    | (refine wp_insert _ rfl _ _ _ 106 rfl 9 3 strKey Tryd.underlying106 Tryd.underlying9 w.heap.size _ rfl h1 ⟨#[103, 114, 111, 117, 112, 115]⟩ (.int .i64 1) rfl rfl ?_; intro w2 h2 g2 s2)
    | (refine wp_insert _ rfl _ _ _ 106 rfl 9 3 strKey Tryd.underlying106 Tryd.underlying9 w.heap.size _ rfl h2 ⟨#[112, 97, 99, 107, 97, 103, 101, 115]⟩ (.int .i64 1) rfl rfl ?_; intro w3 h3 g3 s3)
    | (refine wp_insert _ rfl _ _ _ 106 rfl 9 3 strKey Tryd.underlying106 Tryd.underlying9 w.heap.size _ rfl h3 ⟨#[115, 101, 114, 118, 105, 99, 101, 115]⟩ (.int .i64 2) rfl rfl ?_; intro w4 h4 g4 s4)
    | (refine wp_insert _ rfl _ _ _ 106 rfl 9 3 strKey Tryd.underlying106 Tryd.underlying9 w.heap.size _ rfl h4 ⟨#[102, 97, 99, 116, 115]⟩ (.int .i64 1) rfl rfl ?_; intro w5 h5 g5 s5))
  have hB : Below w.heap.size w w5 := by
    have hz : (w.alloc (.map #[] 0)).heap.size = w.heap.size + 1 := by simp
    exact ((((((Below.refl _ _).alloc (Nat.le_refl _) _).grown g1 (by omega) (fun k e => by cases e; exact Nat.le_refl _)).grown g2 (by omega) (fun k e => by cases e; exact Nat.le_refl _)).grown g3 (by omega) (fun k e => by cases e; exact Nat.le_refl _)).grown g4 (by omega) (fun k e => by cases e; exact Nat.le_refl _)).grown g5 (by omega) (fun k e => by cases e; exact Nat.le_refl _)
  have h5' : IsMap Value.string w5 w.heap.size widthsL := h5
  go_ret
  exact ⟨_, rfl, h5', hB⟩

set_option maxRecDepth 100000 in
theorem width_any (t : ByteArray) (w : World) : Calls Tryd.prog 34 #[.string t] w fun e w' => e = .returned (.int .i64 (tabWidth t)) ∧ Below w.heap.size w w' := by
  go_enter Tryd.func34, Tryd.ntmps34
  go_wp2_with (go_at_call 71; refine (widths_any _).mono ?_; rintro e w1 ⟨b, rfl, hm, hb⟩; have hl := run_lookup (P := Tryd.prog) (t := 106) strKey Tryd.underlying106 Tryd.underlying9 (Tryd.zero3 w1) hm t false; simp only [Bool.false_eq_true, if_false, aget_widths] at hl)
  go_ret
  exact ⟨rfl, hb⟩
end Go.Proofs.YtmjmcmohicjfkaaDoor.tab
