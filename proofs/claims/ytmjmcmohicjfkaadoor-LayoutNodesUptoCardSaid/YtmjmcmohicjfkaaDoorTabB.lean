import Derived.Test.YtmjmcmohicjfkaaDoorTabA
import Derived.Test.YtmjmcmohicjfkaaDoorBld
namespace Go.Proofs.YtmjmcmohicjfkaaDoor.tab
open Go.RowKit Go.Shelf mp Go.Proofs.YtmjmcmohicjfkaaDoorW.PrintWords

theorem ret_i {k : IntKind} {a b : Int} (h : a = b) : Ending.returned (.int k a) = .returned (.int k b) := by rw [h]
theorem ret_b {a b : Bool} (h : a = b) : Ending.returned (.bool a) = .returned (.bool b) := by rw [h]

/-! ### words -/
def letters : List UInt8 := [97, 98, 99, 100, 101, 102, 103, 104, 105, 106, 107, 108, 109, 110, 111, 112, 113, 114, 115, 116, 117, 118, 119, 120, 121, 122, 65, 66, 67, 68, 69, 70, 71, 72, 73, 74, 75, 76, 77, 78, 79, 80, 81, 82, 83, 84, 85, 86, 87, 88, 89, 90, 48, 49, 50, 51, 52, 53, 54, 55, 56, 57, 46, 95, 45, 47]
def lettersOnly (s : ByteArray) : Bool := s.data.toList.all fun c => letters.contains c
def wordB (s : ByteArray) (most : Int) : Bool := decide ((s.size : Int) ≤ most) && lettersOnly s

theorem dropWhile_all {α : Type} (p : α → Bool) : ∀ l : List α, l.all p = true → l.dropWhile p = []
  | [], _ => rfl
  | a :: l, h => by
    simp only [List.all_cons, Bool.and_eq_true] at h
    rw [List.dropWhile_cons, if_pos h.1, dropWhile_all p l h.2]
theorem dropWhile_not {α : Type} (p : α → Bool) : ∀ l : List α, l.dropWhile p = [] → l.all p = true
  | [], _ => rfl
  | a :: l, h => by
    rw [List.dropWhile_cons] at h
    by_cases hp : p a = true
    · rw [if_pos hp] at h
      simp [hp, dropWhile_not p l h]
    · rw [if_neg hp] at h; cases h
theorem trim_nil (l cs : List UInt8) (h : l.all (fun c => cs.contains c) = true) : Lib.trimS l cs = [] := by
  unfold Lib.trimS Lib.trimRightS Lib.trimLeftS
  rw [dropWhile_all _ l.reverse (by rw [List.all_reverse]; exact h)]
  rfl
theorem trim_not (l cs : List UInt8) (h : Lib.trimS l cs = []) : l.all (fun c => cs.contains c) = true := by
  unfold Lib.trimS Lib.trimRightS Lib.trimLeftS at h
  have h1 := dropWhile_not _ _ h
  rw [List.all_reverse] at h1
  have h2 : (l.reverse.dropWhile (fun c => cs.contains c)) = [] := by
    cases hd : l.reverse.dropWhile (fun c => cs.contains c) with
    | nil => rfl
    | cons a t =>
      have := List.head?_dropWhile_not (fun c => cs.contains c) l.reverse
      rw [hd] at this h1
      simp at this h1
      exact absurd h1.1 this
  have h3 := dropWhile_not _ _ h2
  rwa [List.all_reverse] at h3

theorem trim_letters (s : ByteArray) (w : World) (hs : s.size ≤ 9223372036854775807) :
    Calls Tryd.prog 80 #[.string s, .string ⟨#[97, 98, 99, 100, 101, 102, 103, 104, 105, 106, 107, 108, 109, 110, 111, 112, 113, 114, 115, 116, 117, 118, 119, 120, 121, 122, 65, 66, 67, 68, 69, 70, 71, 72, 73, 74, 75, 76, 77, 78, 79, 80, 81, 82, 83, 84, 85, 86, 87, 88, 89, 90, 48, 49, 50, 51, 52, 53, 54, 55, 56, 57, 46, 95, 45, 47]⟩] w fun e w' => ∃ r : ByteArray, e = .returned (.string r) ∧ r.toList.isEmpty = lettersOnly s ∧ Below w.heap.size w w' := by
  refine (Any.strings_Trim_laid Tryd.laysTrim160 (by kernel_rfl) s _ w hs (by decide) (ascii_of_all (by decide))).mono ?_
  rintro e w' ⟨rfl, hb⟩
  refine ⟨_, rfl, ?_, hb⟩
  have e1 : (⟨(Lib.trimS s.data.toList letters).toArray⟩ : ByteArray).toList = Lib.trimS s.data.toList letters := by
    exact ByteArray.toList_mk _
  show (⟨(Lib.trimS s.data.toList letters).toArray⟩ : ByteArray).toList.isEmpty = _
  rw [e1]
  unfold lettersOnly
  cases h : s.data.toList.all (fun c => letters.contains c) with
  | true => rw [trim_nil _ _ h]; rfl
  | false =>
    cases ht : Lib.trimS s.data.toList letters with
    | nil => rw [trim_not _ _ ht] at h; cases h
    | cons a l => rfl

set_option maxRecDepth 100000 in
set_option maxHeartbeats 1000000 in
theorem word_any (s : ByteArray) (most : Int) (w : World) (hs : s.size ≤ 9223372036854775807) :
    Calls Tryd.prog 70 #[.string s, .int .i64 most] w fun e w' => e = .returned (.bool (wordB s most)) ∧ Below w.heap.size w w' := by
  by_cases h : (s.size : Int) ≤ most
  · have hd : decide ((s.size : Int) ≤ most) = true := decide_eq_true h
    have hw : wordB s most = lettersOnly s := by simp [wordB, h]
    rw [hw]
    clear h hw
    go_enter Tryd.func70, Tryd.ntmps70
    go_wp2_with (go_at_call 80; refine (trim_letters s _ hs).mono ?_; rintro e w1 ⟨r, rfl, hr, hb⟩)
    go_ret
    exact ⟨by rw [← hr]; first | rfl | simp, hb⟩
  · have hd : decide ((s.size : Int) ≤ most) = false := decide_eq_false h
    have hw : wordB s most = false := by simp [wordB, h]
    rw [hw]
    clear h hw
    go_enter Tryd.func70, Tryd.ntmps70
    go_wp2
    go_ret
    exact ⟨rfl, Below.refl _ _⟩

/-! ### slices.IndexFunc, ContainsFunc over texts -/
def idxP {α : Type} (p : α → Bool) (xs : List α) : Int := match xs.findIdx? p with | some i => (i : Int) | none => -1
theorem idxP_range {α : Type} (p : α → Bool) (xs : List α) : (0 ≤ idxP p xs ↔ xs.any p = true) := by
  unfold idxP
  cases h : xs.findIdx? p with
  | some i =>
    have := (List.findIdx?_eq_some_iff_getElem.1 h)
    obtain ⟨hi, hp, _⟩ := this
    simp only [Int.natCast_nonneg, true_iff]
    exact List.any_eq_true.2 ⟨xs[i], List.getElem_mem hi, hp⟩
  | none =>
    have := List.findIdx?_eq_none_iff.1 h
    constructor
    · intro h; simp at h
    · intro h
      obtain ⟨x, hx, hp⟩ := List.any_eq_true.1 h
      rw [this x hx] at hp; cases hp
theorem idxP_at {α : Type} {p : α → Bool} {xs : List α} {k : Nat} (hk : k < xs.length) (hp : p xs[k] = true) (hb : ∀ j (hj : j < k), p (xs[j]'(by omega)) = false) : idxP p xs = k := by
  unfold idxP
  have : xs.findIdx? p = some k := List.findIdx?_eq_some_iff_getElem.2 ⟨hk, hp, fun j hj => by simpa using hb j hj⟩
  rw [this]
theorem idxP_none {α : Type} {p : α → Bool} {xs : List α} (hb : ∀ j (hj : j < xs.length), p xs[j] = false) : idxP p xs = -1 := by
  unfold idxP
  have : xs.findIdx? p = none := List.findIdx?_eq_none_iff.2 (fun x hx => by
    obtain ⟨j, hj, rfl⟩ := List.getElem_of_mem hx
    exact hb j hj)
  rw [this]

def NoneYet {α : Type} (p : α → Bool) (xs : List α) (k : Nat) : Prop := ∀ j, j < k → ∀ hx : j < xs.length, p xs[j] = false
theorem NoneYet.succ {α : Type} {p : α → Bool} {xs : List α} {k : Nat} (h : NoneYet p xs k) (hk : k < xs.length) (hp : p xs[k] = false) : NoneYet p xs (k + 1) := by
  intro j hj hx
  by_cases e : j = k
  · subst e; exact hp
  · exact h j (by omega) hx
set_option maxHeartbeats 1000000 in
set_option maxRecDepth 100000 in
theorem indexFunc_str (A : Option Addr) (c : Nat) (xs : List ByteArray) (p : ByteArray → Bool) (g : Nat) (lb : Array Value) (w : World) (eg : ∀ args w, (callFunc g args).run Tryd.prog w = .ok (.enter g args) w)
    (hr : Kd.string.C w A xs.length xs) (hc : xs.length ≤ c) (hp : ∀ x ∈ xs, ∀ W, Below w.heap.size w W → Calls Tryd.prog g (#[.string x] ++ lb) W fun e W' => e = .returned (.bool (p x)) ∧ Below W.heap.size W W') :
    Calls Tryd.prog 87 #[.slice A xs.length c, .func (.func g) #[] lb] w fun e w' => e = .returned (.int .i64 (idxP p xs)) ∧ Below w.heap.size w w' := by
  have hmax : xs.length ≤ 9223372036854775807 := hr.2.1
  have HR := Lib.hid hr
  clear hr
  go_enter Tryd.func87, Tryd.ntmps87
  go_wp2
  go_loopw [5, 8] (fun u i wr => ∃ k : Nat, k ≤ xs.length ∧ i = .int .i64 k ∧ NoneYet p xs k ∧ Below w.heap.size w wr) (fun _ i _ => xs.length - (intOf i).toNat)
  case atStart => exact ⟨0, Nat.zero_le _, rfl, fun j hj => by omega, Below.refl _ _⟩
  case round =>
    obtain ⟨k, hk, rfl, hn, hB⟩ := hrel
    by_cases hlt : k < xs.length
    · obtain ⟨ad, rfl, hcell⟩ := Kd.at_string (Kd.C_below HR.out hB) k (by omega) (by omega)
      have hx : rdOf ByteArray.empty xs (k : Int) = xs[k] := by simp [rdOf, hlt]
      rw [hx, Int.toNat_natCast] at hcell
      have hpk := hp xs[k] (List.getElem_mem hlt) wr hB
      have HP := Lib.hid hpk
      clear hpk hp
      cases hv : p xs[k] with
      | true =>
        have hres := idxP_at hlt hv (fun j hj => hn j hj (by omega))
        rw [hv] at HP
        clear hv hn
        have HRES := Lib.hid hres
        clear hres
        go_wp2_with (go_at_fn g; refine HP.out.mono ?_; rintro e w1 ⟨rfl, hb⟩)
        go_ret
        exact ⟨ret_i HRES.out.symm, hB.trans (hb.mono hB.size)⟩
      | false =>
        have hn' := hn.succ hlt hv
        rw [hv] at HP
        clear hv hn
        go_wp2_with (go_at_fn g; refine HP.out.mono ?_; rintro e w1 ⟨rfl, hb⟩)
        go_roundw
        case rel => exact ⟨k + 1, by omega, by go_num, hn', hB.trans (hb.mono hB.size)⟩
        case measure => simp [intOf]; omega
    · have hres := idxP_none (p := p) (xs := xs) (fun j hj => hn j (by omega) hj)
      have HRES := Lib.hid hres
      clear hres hp
      go_wp2
      go_ret
      exact ⟨ret_i HRES.out.symm, hB⟩

theorem enters87 : ∀ args w, (callFunc 87 args).run Tryd.prog w = .ok (.enter 87 args) w := enters_of Tryd.func87 (by kernel_rfl) rfl
theorem containsFunc_str (A : Option Addr) (c : Nat) (xs : List ByteArray) (p : ByteArray → Bool) (g : Nat) (lb : Array Value) (w : World) (eg : ∀ args w, (callFunc g args).run Tryd.prog w = .ok (.enter g args) w)
    (hr : Kd.string.C w A xs.length xs) (hc : xs.length ≤ c) (hp : ∀ x ∈ xs, ∀ W, Below w.heap.size w W → Calls Tryd.prog g (#[.string x] ++ lb) W fun e W' => e = .returned (.bool (p x)) ∧ Below W.heap.size W W') :
    Calls Tryd.prog 68 #[.slice A xs.length c, .func (.func g) #[] lb] w fun e w' => e = .returned (.bool (xs.any p)) ∧ Below w.heap.size w w' := by
  have HC := Lib.hid (indexFunc_str A c xs p g lb w eg hr hc hp)
  have hi : decide (0 ≤ idxP p xs) = xs.any p := by
    have := idxP_range p xs
    cases h : xs.any p with
    | true => exact decide_eq_true (this.2 h)
    | false => exact decide_eq_false (fun h' => by rw [this.1 h'] at h; cases h)
  have HI := Lib.hid hi
  clear hi hr hc hp
  go_enter Tryd.func68, Tryd.ntmps68
  go_wp2_with (go_at_call 87; refine HC.out.mono ?_; rintro e w1 ⟨rfl, hb⟩)
  go_ret
  exact ⟨ret_b HI.out, hb⟩

/-! ### Check -/
set_option maxRecDepth 100000 in
theorem check1_any (s : ByteArray) (w : World) (hs : s.size ≤ 9223372036854775807) :
    Calls Tryd.prog 69 #[.string s] w fun e w' => e = .returned (.bool !(wordB s 64)) ∧ Below w.heap.size w w' := by
  go_enter Tryd.func69, Tryd.ntmps69
  go_wp2_with (go_at_call 70; refine (word_any s 64 _ hs).mono ?_; rintro e w1 ⟨rfl, hb⟩)
  go_ret
  exact ⟨rfl, hb⟩
end Go.Proofs.YtmjmcmohicjfkaaDoor.tab
