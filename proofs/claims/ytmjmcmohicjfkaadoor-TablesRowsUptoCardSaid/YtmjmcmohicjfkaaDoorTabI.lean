import Derived.Test.YtmjmcmohicjfkaaDoorTabH
/-
  TablesUnlike: the plain law (texts of right rows are the same if the rows are), the walk.
-/
namespace Go.Proofs.YtmjmcmohicjfkaaDoor.tab
open Go.RowKit Go.Shelf Go.Proofs.YtmjmcmohicjfkaaDoorW.PrintWords

theorem cut_first (c : UInt8) : ∀ (x y : List UInt8) (r s : List UInt8), c ∉ x → c ∉ y → x ++ c :: r = y ++ c :: s → x = y ∧ r = s
  | [], [], r, s, _, _, h => by simpa using h
  | [], b :: y, r, s, _, hy, h => by
    simp at h
    exact absurd (by simp [h.1]) hy
  | a :: x, [], r, s, hx, _, h => by
    simp at h
    exact absurd (by simp [h.1]) hx
  | a :: x, b :: y, r, s, hx, hy, h => by
    simp at h
    obtain ⟨h1, h2⟩ := cut_first c x y r s (fun m => hx (by simp [m])) (fun m => hy (by simp [m])) h.2
    exact ⟨by rw [h.1, h1], h2⟩
theorem join_two (x y : List UInt8) (xs : List (List UInt8)) : Lib.join (x :: y :: xs) [58] = x ++ 58 :: Lib.join (y :: xs) [58] := by simp [Lib.join]
theorem join_inj : ∀ (xs ys : List (List UInt8)), xs.length = ys.length → (∀ x ∈ xs, (58 : UInt8) ∉ x) → (∀ y ∈ ys, (58 : UInt8) ∉ y) → Lib.join xs [58] = Lib.join ys [58] → xs = ys
  | [], [], _, _, _, _ => rfl
  | [], _ :: _, h, _, _, _ => by simp at h
  | _ :: _, [], h, _, _, _ => by simp at h
  | [x], [y], _, _, _, h => by rw [Lib.join_one, Lib.join_one] at h; rw [h]
  | [x], _ :: _ :: _, h, _, _, _ => by simp at h
  | _ :: _ :: _, [y], h, _, _, _ => by simp at h
  | x :: x' :: xs, y :: y' :: ys, hl, hx, hy, h => by
    rw [join_two, join_two] at h
    obtain ⟨h1, h2⟩ := cut_first 58 x y _ _ (hx x (by simp)) (hy y (by simp)) h
    rw [h1, join_inj (x' :: xs) (y' :: ys) (by simpa using hl) (fun z hz => hx z (by simp [hz])) (fun z hz => hy z (by simp [hz])) h2]
theorem join_mem (c : UInt8) (hc : c ≠ 58) : ∀ xs : List (List UInt8), (∀ x ∈ xs, c ∉ x) → c ∉ Lib.join xs [58]
  | [], _ => by simp [Lib.join_nil]
  | [x], h => by rw [Lib.join_one]; exact h x (by simp)
  | x :: y :: xs, h => by
    rw [join_two]
    have h1 := h x (by simp)
    have h2 := join_mem c hc (y :: xs) (fun z hz => h z (by simp [hz]))
    simp [h1, h2, hc]
theorem word_free {s : ByteArray} {most : Int} (h : wordB s most = true) (c : UInt8) (hc : letters.contains c = false) : c ∉ s.data.toList := by
  unfold wordB lettersOnly at h
  rw [Bool.and_eq_true, List.all_eq_true] at h
  intro hm
  rw [h.2 c hm] at hc; cases hc
/-- A right row. -/
structure Right (n : Int) (r : Row) : Prop where
  key : ∀ c, letters.contains c = false → c ∉ r.f0.data.toList
  cells : ∀ x ∈ r.f1, ∀ c, letters.contains c = false → c ∉ x.data.toList
  len : (r.f1.length : Int) = n
theorem right_of {t : ByteArray} {r : Row} (h : checkRow t r = 0) : Right (tabWidth t) r := by
  unfold checkRow at h
  split at h
  · cases h
  · split at h
    · cases h
    · rename_i h1
      simp only [not_or, Bool.not_eq_true, Bool.not_eq_false, Decidable.not_not] at h1
      obtain ⟨_, hk, hn, hb⟩ := h1
      refine ⟨fun c hc => word_free hk c hc, fun x hx c hc => ?_, hn⟩
      have hw : wordB x 64 = true := by
        unfold badCells at hb
        have := List.any_eq_false.1 hb x hx
        simpa using this
      exact word_free hw c hc
def bodyText (r : Row) : List UInt8 := r.f0.data.toList ++ 58 :: Lib.join (r.f1.map (·.data.toList)) [58]
theorem rowText_eq (r : Row) : rowText r = bodyText r ++ [10] := by simp [rowText, bodyText]
theorem body_free {n : Int} {r : Row} (h : Right n r) : (10 : UInt8) ∉ bodyText r := by
  unfold bodyText
  have h1 := h.key 10 (by decide)
  have h2 := join_mem 10 (by decide) (r.f1.map (·.data.toList)) (fun x hx => by
    obtain ⟨y, hy, rfl⟩ := List.mem_map.1 hx
    exact h.cells y hy 10 (by decide))
  simp only [List.mem_append, List.mem_cons, not_or]
  exact ⟨h1, by decide, h2⟩
theorem bytes_inj {a b : ByteArray} (h : a.data.toList = b.data.toList) : a = b := ByteArray.ext (Array.toList_inj.1 h)
theorem body_inj {n : Int} {r s : Row} (hr : Right n r) (hs : Right n s) (h : bodyText r = bodyText s) : r = s := by
  unfold bodyText at h
  obtain ⟨h1, h2⟩ := cut_first 58 _ _ _ _ (hr.key 58 (by decide)) (hs.key 58 (by decide)) h
  have hl : r.f1.length = s.f1.length := by have := hr.len; have := hs.len; omega
  have h3 := join_inj _ _ (by simp [hl]) (fun x hx => by
    obtain ⟨y, hy, rfl⟩ := List.mem_map.1 hx
    exact hr.cells y hy 58 (by decide)) (fun x hx => by
    obtain ⟨y, hy, rfl⟩ := List.mem_map.1 hx
    exact hs.cells y hy 58 (by decide)) h2
  have h4 : r.f1 = s.f1 := by
    refine List.ext_getElem hl (fun i h1 h2 => ?_)
    have := congrArg (fun l => l[i]?) h3
    simp [h1, h2] at this
    exact bytes_inj (by rw [this])
  have h5 : r.f0 = s.f0 := bytes_inj h1
  cases r; cases s
  simp_all
theorem text_inj {n : Int} : ∀ (l m : List Row), (∀ r ∈ l, Right n r) → (∀ r ∈ m, Right n r) → textOf l = textOf m → l = m
  | [], [], _, _, _ => rfl
  | [], s :: m, _, _, h => by simp [textOf, rowText_eq] at h
  | r :: l, [], _, _, h => by simp [textOf, rowText_eq] at h
  | r :: l, s :: m, hl, hm, h => by
    have e : ∀ (r : Row) l, textOf (r :: l) = bodyText r ++ 10 :: textOf l := fun r l => by simp [textOf, rowText_eq]
    rw [e, e] at h
    obtain ⟨h1, h2⟩ := cut_first 10 _ _ _ _ (body_free (hl r (by simp))) (body_free (hm s (by simp))) h
    rw [body_inj (hl r (by simp)) (hm s (by simp)) h1, text_inj l m (fun x hx => hl x (by simp [hx])) (fun x hx => hm x (by simp [hx])) h2]
theorem right_rows {t : ByteArray} {l : List Row} (h : okRows t l = true) : ∀ r ∈ l, Right (tabWidth t) r := by
  intro r hr
  obtain ⟨i, hi, rfl⟩ := List.getElem_of_mem hr
  unfold okRows at h
  have := List.all_eq_true.1 h i (by simpa using hi)
  unfold okRow at this
  rw [Bool.and_eq_true, decide_eq_true_eq, getElem!_pos l i hi] at this
  exact right_of this.1
theorem printP_ok {t : ByteArray} {l : List Row} (h : (printP t l).2 = 0) : okRows t l = true ∧ (printP t l).1 = textOf l := by
  unfold printP at h ⊢
  split at h
  · cases h
  · split at h
    · cases h
    · split at h
      · cases h
      · split at h
        · cases h
        · rename_i h1 h2 h3 h4
          rw [if_neg h1, if_neg h2, if_neg h3, if_neg h4]
          exact ⟨by simpa using h3, rfl⟩
/-- THE PLAIN LAW. -/
theorem unlike_law {t : ByteArray} {a b : List Row} (ha : (printP t a).2 = 0) (hb : (printP t b).2 = 0) : ((printP t a).1 == (printP t b).1) = sameRows a b := by
  obtain ⟨h1, h2⟩ := printP_ok ha
  obtain ⟨h3, h4⟩ := printP_ok hb
  rw [h2, h4]
  unfold sameRows
  by_cases e : a = b
  · subst e; simp
  · rw [decide_eq_false e]
    simp only [beq_eq_false_iff_ne]
    exact fun h => e (text_inj a b (right_rows h1) (right_rows h3) h)

set_option maxRecDepth 100000 in
set_option maxHeartbeats 2000000 in
theorem unlike_any (t : ByteArray) (a b : List Row) (A B : Option Addr) (ca cb : Nat) (w : World) (m : Int) (ha : ∀ r ∈ a, SmallRow r) (hb : ∀ r ∈ b, SmallRow r) (hA : kRow.C w A a.length a) (hca : a.length ≤ ca) (hB : kRow.C w B b.length b) (hcb : b.length ≤ cb)
    (hm : w.cell? ⟨1, 0, none⟩ = some (.int .i64 m)) : Calls Tryd.prog 3 #[.string t, .slice A a.length ca, .slice B b.length cb] w fun e w' => e = .returned (.bool true) ∧ Below w.heap.size w w' := by
  have HA := Lib.hid hA
  have HB := Lib.hid hB
  have HS := Lib.hid ha
  have HT := Lib.hid hb
  have HM := Lib.hid hm
  clear hA hB ha hb hm
  go_enter Tryd.func3, Tryd.ntmps3
  go_wp2_with (go_at_call 8; refine (shown_any w m HM.out).mono ?_; rintro e w1 ⟨rfl, hb1⟩)
  refine (print_any t a A ca w1 HS.out (Kd.C_below HA.out hb1) hca).mono ?_
  rintro e w2 ⟨X, cx, rfl, hcx, hX, hb2'⟩
  have hb2 := below_step hb1 hb2'
  go_wp2_with fail
  refine (print_any t b B cb w2 HT.out (Kd.C_below HB.out hb2) hcb).mono ?_
  rintro e w3 ⟨Y, cy, rfl, hcy, hY, hb3'⟩
  have hb3 := below_step hb2 hb3'
  go_wp2_with fail
  refine (same_any a b A B ca cb w3 (Kd.C_below HA.out hb3) (Kd.C_below HB.out hb3)).mono ?_
  rintro e w4 ⟨rfl, hb4'⟩
  have hb4 := below_step hb3 hb4'
  have kX := kb.conv_string (c := cx) (Kd.C_below hX (hb3'.trans (hb4'.mono hb3'.size)))
  have kY := kb.conv_string (c := cy) (Kd.C_below hY hb4')
  have hlaw := Lib.hid (unlike_law (t := t) (a := a) (b := b))
  generalize sameRows a b = sm at *
  obtain ⟨x, hx⟩ : ∃ x, printP t a = x := ⟨_, rfl⟩
  obtain ⟨y, hy⟩ : ∃ y, printP t b = y := ⟨_, rfl⟩
  rw [hx] at kX hlaw ⊢
  rw [hy] at kY hlaw ⊢
  obtain ⟨x, n⟩ := x
  obtain ⟨y, k⟩ := y
  dsimp only at kX kY hlaw ⊢
  clear hx hy hX hY hcx hcy
  by_cases hn : n = 0
  · subst hn
    by_cases hk : k = 0
    · subst hk
      have hq : ((x == y) == sm) = true := by rw [hlaw.out rfl rfl]; simp
      go_wp2
      go_ret
      exact ⟨rfl, hb4⟩
    · have hq : (k != 0) = true := by simpa using hk
      go_wp2
      go_ret
      exact ⟨rfl, hb4⟩
  · have hq : (n != 0) = true := by simpa using hn
    go_wp2
    go_ret
    exact ⟨rfl, hb4⟩
end Go.Proofs.YtmjmcmohicjfkaaDoor.tab
