import Derived.Test.YtmjmcmohicjfkaaDoorTabC
import Derived.Test.YtmjmcmohicjfkaaDoorKb
import Derived.WalkLawsBesides
import Derived.Test.YtmjmcmohicjfkaaDoorReg
namespace Go.Proofs.YtmjmcmohicjfkaaDoor.tab
open Go.RowKit Go.Shelf mp Go.Proofs.YtmjmcmohicjfkaaDoorW.PrintWords

/-! ### Print, as a function -/
def leB (a b : ByteArray) : Bool := Op.bytesLess a.toList b.toList || a.toList == b.toList
instance : Inhabited Row := ⟨⟨⟨#[]⟩, []⟩⟩
def rowText (r : Row) : List UInt8 := r.f0.data.toList ++ [58] ++ Lib.join (r.f1.map (·.data.toList)) [58] ++ [10]
def okRow (t : ByteArray) (l : List Row) (j : Nat) : Bool := decide (checkRow t l[j]! = 0) && (decide (j = 0) || !(leB (l[j]!).f0 (l[j - 1]!).f0))
def okRows (t : ByteArray) (l : List Row) : Bool := (List.range l.length).all (okRow t l)
def textOf (l : List Row) : List UInt8 := l.flatMap rowText
def printP (t : ByteArray) (l : List Row) : List UInt8 × Int :=
  if tabWidth t = 0 then ([], 50) else if 32 < l.length then ([], 5) else if okRows t l = false then ([], 51) else if 2432 < (textOf l).length then ([], 5) else (textOf l, 0)

def OkTo (t : ByteArray) (l : List Row) (k : Nat) : Prop := ∀ j, j < k → okRow t l j = true
theorem OkTo.succ {t : ByteArray} {l : List Row} {k : Nat} (h : OkTo t l k) (hk : okRow t l k = true) : OkTo t l (k + 1) := by
  intro j hj
  by_cases e : j = k
  · subst e; exact hk
  · exact h j (by omega)
theorem okRows_of {t : ByteArray} {l : List Row} (h : OkTo t l l.length) : okRows t l = true := by
  simp only [okRows, List.all_eq_true, List.mem_range]
  exact h
theorem okRows_not {t : ByteArray} {l : List Row} {k : Nat} (hk : k < l.length) (h : okRow t l k = false) : okRows t l = false := by
  cases e : okRows t l with
  | false => rfl
  | true =>
    simp only [okRows, List.all_eq_true, List.mem_range] at e
    rw [e k hk] at h; cases h

theorem tabWidth_le (t : ByteArray) : tabWidth t ≤ 3 := by
  unfold tabWidth
  repeat' split
  all_goals decide
theorem join_length (sep : List UInt8) (hsep : sep.length = 1) (m : Nat) : ∀ xs : List (List UInt8), (∀ x ∈ xs, x.length ≤ m) → (Lib.join xs sep).length ≤ xs.length * (m + 1)
  | [], _ => by simp [Lib.join]
  | [x], h => by
    have := h x (by simp)
    simp [Lib.join]; omega
  | x :: y :: xs, h => by
    have h1 := h x (by simp)
    have h2 := join_length sep hsep m (y :: xs) (fun z hz => h z (by simp [hz]))
    have e : Lib.join (x :: y :: xs) sep = x ++ sep ++ Lib.join (y :: xs) sep := by simp [Lib.join]
    rw [e]
    simp only [List.length_append, List.length_cons] at h2 ⊢
    rw [hsep, Nat.add_mul (xs.length + 1) 1]
    omega

theorem rowText_length {t : ByteArray} {r : Row} (h : checkRow t r = 0) : (rowText r).length ≤ 300 := by
  unfold checkRow at h
  split at h
  · cases h
  · split at h
    · cases h
    · rename_i h0 h1
      simp only [not_or, Bool.not_eq_true, Bool.not_eq_false, Decidable.not_not] at h1
      obtain ⟨_, hk, hn, hb⟩ := h1
      have h3 := tabWidth_le t
      have hk' : r.f0.size ≤ 32 := by
        simp only [wordB, Bool.and_eq_true, decide_eq_true_eq] at hk
        omega
      have hc : ∀ x ∈ r.f1.map (·.data.toList), x.length ≤ 64 := by
        intro x hx
        obtain ⟨c, hc, rfl⟩ := List.mem_map.1 hx
        have hw : wordB c 64 = true := by
          unfold badCells at hb
          have := List.any_eq_false.1 hb c hc
          simpa using this
        simp only [wordB, Bool.and_eq_true, decide_eq_true_eq] at hw
        rw [data_length]
        omega
      have hj := join_length [58] rfl 64 _ hc
      rw [List.length_map] at hj
      unfold rowText
      simp only [List.length_append, data_length, List.length_cons, List.length_nil]
      omega
theorem checkRow_len {t : ByteArray} {r : Row} (h : checkRow t r = 0) : r.f1.length ≤ 3 := by
  unfold checkRow at h
  split at h
  · cases h
  · split at h
    · cases h
    · rename_i h0 h1
      simp only [not_or, Decidable.not_not] at h1
      have h3 := tabWidth_le t
      have := h1.2.2.1
      omega
theorem textOf_length {t : ByteArray} {l : List Row} {k : Nat} (h : OkTo t l k) : (textOf (l.take k)).length ≤ 300 * k := by
  induction k with
  | zero => simp [textOf]
  | succ k ih =>
    have ih' := ih (fun j hj => h j (by omega))
    by_cases hk : k < l.length
    · rw [List.take_succ_eq_append_getElem hk]
      unfold textOf at *
      simp only [List.flatMap_append, List.length_append, List.flatMap_cons, List.flatMap_nil, List.append_nil]
      have h1 := h k (by omega)
      unfold okRow at h1
      simp only [Bool.and_eq_true, decide_eq_true_eq] at h1
      have h2 := rowText_length h1.1
      rw [getElem!_pos l k hk] at h2
      omega
    · rw [List.take_of_length_le (by omega)] at ih' ⊢
      omega
theorem textOf_succ {l : List Row} {k : Nat} (hk : k < l.length) : textOf (l.take (k + 1)) = textOf (l.take k) ++ rowText l[k] := by
  unfold textOf
  rw [List.take_succ_eq_append_getElem hk, List.flatMap_append]
  simp only [List.flatMap_cons, List.flatMap_nil, List.append_nil]

/-- strings.Join of cells. -/
theorem join_any (A : Option Addr) (c : Nat) (xs : List ByteArray) (w : World) (h : Kd.string.C w A xs.length xs) (hc : xs.length ≤ c) (hn : (Lib.join (xs.map (·.data.toList)) [58]).length ≤ 140737488355328) (hN : xs.length ≤ 140737488355328) :
    Calls Tryd.prog 36 #[.slice A xs.length c, .string ⟨#[58]⟩] w fun e w' => e = .returned (.string ⟨(Lib.join (xs.map (·.data.toList)) [58]).toArray⟩) ∧ Below w.heap.size w w' := by
  rcases Nat.eq_zero_or_pos xs.length with h0 | h0
  · obtain rfl : xs = [] := List.eq_nil_of_length_eq_zero h0
    refine (Tryd.strings_Join_none A c ⟨#[58]⟩ w).mono ?_
    rintro e w' ⟨rfl, rfl⟩
    exact ⟨rfl, Below.refl _ _⟩
  · obtain ⟨ad, rfl, hc0⟩ := Kd.at_string h 0 (by omega) (by omega)
    have had := kb.spot_none (ad := ad) (by simpa [Addr.add] using hc0)
    rw [had]
    refine Tryd.strings_Join ad.block ad.off c xs ⟨#[58]⟩ w (fun j x hj => ?_) ?_ hN hc hn
    · obtain ⟨hjl, hjx⟩ := List.getElem?_eq_some_iff.1 hj
      obtain ⟨ad', e, hcj⟩ := Kd.at_string h (j : Int) (by omega) (by omega)
      cases e
      rw [had, Int.toNat_natCast, kb.add_plain'] at hcj
      rw [hcj]
      simp [rdOf, hj]
    · rw [had] at hc0
      exact World.block_lt_of_cell? w (⟨ad.block, ad.off, none⟩ : Addr) (by simpa [Addr.add] using hc0)

theorem checkRow_key {t : ByteArray} {r : Row} (h : checkRow t r = 0) : r.f0.size ≤ 32 := by
  have h1 := rowText_length h
  unfold checkRow at h
  split at h
  · cases h
  · split at h
    · cases h
    · rename_i h0 h1
      simp only [not_or, Bool.not_eq_false] at h1
      have := h1.2.1
      simp only [wordB, Bool.and_eq_true, decide_eq_true_eq] at this
      omega
/-- The cells joined, under a name of its own. -/
def JoinIs (r : Row) (A : Option Addr) (c : Nat) (J : List UInt8) : Prop := Lib.join (r.f1.map (·.data.toList)) [58] = J ∧ ∀ W, Kd.string.C W A r.f1.length r.f1 → Calls Tryd.prog 36 #[.slice A r.f1.length c, .string ⟨#[58]⟩] W fun e w' => e = .returned (.string ⟨J.toArray⟩) ∧ Below W.heap.size W w'
theorem join_J {t : ByteArray} {r : Row} (h : checkRow t r = 0) {A : Option Addr} {c : Nat} (hc : r.f1.length ≤ c) : ∃ J : List UInt8, JoinIs r A c J ∧ J.length ≤ 300 := by
  have h1 := rowText_length h
  have h2 := checkRow_len h
  unfold rowText at h1
  simp only [List.length_append] at h1
  exact ⟨_, ⟨rfl, fun W hC => join_any A c r.f1 W hC hc (by omega) (by omega)⟩, by omega⟩
theorem strCells_eq (s : ByteArray) : Lib.strCells s = Lib.byteCells s.data.toList := rfl
theorem byteCells_append (a b : List UInt8) : Lib.byteCells (a ++ b) = Lib.byteCells a ++ Lib.byteCells b := by simp [Lib.byteCells]
theorem row_string {r : Row} {A : Option Addr} {c : Nat} {J : List UInt8} (h : JoinIs r A c J) : (r.f0 ++ (⟨#[58]⟩ : ByteArray) ++ (⟨J.toArray⟩ : ByteArray) ++ (⟨#[10]⟩ : ByteArray)).data.toList = rowText r := by
  unfold rowText
  rw [h.1]
  simp [ByteArray.data_append]
theorem row_write {r : Row} {A : Option Addr} {c : Nat} {J : List UInt8} (h : JoinIs r A c J) (hks : r.f0.size ≤ 32) (hJ : J.length ≤ 300) {B b : Nat} {l : List Row} {k : Nat} (hk : k < l.length) (hr : l[k]! = r) (ht : (textOf (l.take k)).length ≤ 300 * k) (h32 : l.length ≤ 32) (W : World)
    (hb : Lib.IsBuilderF 67 5 B b (Lib.byteCells (textOf (l.take k))) W) (hBw : B ≤ W.heap.size) :
    Calls Tryd.prog 35 #[.pointer (some ⟨b, 0, none⟩), .string (r.f0 ++ (⟨#[58]⟩ : ByteArray) ++ (⟨J.toArray⟩ : ByteArray) ++ (⟨#[10]⟩ : ByteArray))] W fun e w' => (∃ v, e = .returned v) ∧ Lib.IsBuilderF 67 5 B b (Lib.byteCells (textOf (l.take (k + 1)))) w' ∧ Below B W w' := by
  have hsz : (r.f0 ++ (⟨#[58]⟩ : ByteArray) ++ (⟨J.toArray⟩ : ByteArray) ++ (⟨#[10]⟩ : ByteArray)).size = r.f0.size + 1 + J.length + 1 := by
    simp only [ByteArray.size_append', ByteArray.size_mk', List.size_toArray, List.length_cons, List.length_nil]
  refine (bld.writeString B b _ _ W hb (by rw [hsz, Lib.byteCells_length]; omega) hBw).mono ?_
  rintro e w' ⟨rfl, h1, h2⟩
  refine ⟨⟨_, rfl⟩, ?_, h2⟩
  rw [strCells_eq, row_string h, ← byteCells_append] at h1
  rw [textOf_succ hk, ← getElem!_pos l k hk, hr]
  exact h1
theorem below_grow {w w' : World} (h : Below w.heap.size w w') : w.grownBy w' none := ⟨h.os, h.tape, h.output, h.size, fun i hi _ => h.block i hi⟩
theorem bld_below {T e : TypeId} {B b : Nat} {bs : List Value} {w w' : World} (h : Lib.IsBuilderF T e B b bs w) (hb : Below w.heap.size w w') : Lib.IsBuilderF T e B b bs w' := by
  have go : ∀ p, Lib.BuilderAtF T e B b p bs w → Lib.BuilderAtF T e B b p bs w' := by
    intro p h
    have hlt := h.lt
    obtain ⟨hB, v, hbk, hown, hne⟩ := h
    exact ⟨hB, v, (hb.block b hlt).trans hbk, hown.kept (below_grow hb) (by cases hv : v.ownBlock <;> simp), hne⟩
  exact h.elim (fun h => .inl (go _ h)) (fun h => .inr (go _ h))
theorem bld_lt {T e : TypeId} {B b : Nat} {bs : List Value} {w : World} (h : Lib.IsBuilderF T e B b bs w) : b < w.heap.size := h.elim (fun h => h.lt) (fun h => h.lt)
theorem bld_new (w : World) (T e : TypeId) : Lib.IsBuilderF T e w.heap.size w.heap.size [] (w.alloc (.cells #[.pointer none, .slice none 0 0] T)) :=
  .inl ⟨Nat.le_refl _, .slice none 0 0, blk_new _ _, ⟨rfl, .inl ⟨rfl, rfl⟩⟩, by simp [Value.ownBlock]⟩

/-- What is kept through a round of Print: the row's own variable, the builder, and all that lay there. -/
structure PK (w : World) (b g : Nat) (r : Row) (A1 : Option Addr) (c1 : Nat) (txt : List UInt8) (prev : Option (Addr × ByteArray)) (W : World) : Prop where
  box : W.heap[g]? = some (.cells #[.string r.f0, .slice A1 r.f1.length c1] 52 (0, 0))
  bld : Lib.IsBuilderF 67 5 b b (Lib.byteCells txt) W
  bel : Below w.heap.size w W
  cel : Kd.string.C W A1 r.f1.length r.f1
  prv : ∀ a s, prev = some (a, s) → W.cell? a = some (.string s)
section
variable {w : World} {b g : Nat} {r : Row} {A1 : Option Addr} {c1 : Nat} {txt : List UInt8} {prev : Option (Addr × ByteArray)} {W W' : World}
theorem PK.step (h : PK w b g r A1 c1 txt prev W) (hb : Below W.heap.size W W') : PK w b g r A1 c1 txt prev W' :=
  ⟨blk_below h.box hb, bld_below h.bld hb, h.bel.trans (hb.mono h.bel.size), Kd.C_below h.cel hb, fun a s e => pw_cell_below hb (h.prv a s e)⟩
theorem PK.withPrev (h : PK w b g r A1 c1 txt prev W) (a : Addr) (s : ByteArray) (hc : W.cell? a = some (.string s)) : PK w b g r A1 c1 txt (some (a, s)) W :=
  ⟨h.box, h.bld, h.bel, h.cel, fun a' s' e => by cases e; exact hc⟩
theorem PK.cell0 (h : PK w b g r A1 c1 txt prev W) : W.cell? ⟨g, 0, none⟩ = some (.string r.f0) := (blk_cell h.box 0).trans rfl
theorem PK.cell1 (h : PK w b g r A1 c1 txt prev W) : W.cell? ⟨g, 1, none⟩ = some (.slice A1 r.f1.length c1) := (blk_cell h.box 1).trans rfl
end

theorem checkRow_two {t : ByteArray} (r : Row) (h0 : (tabWidth t == 0) = false) : checkRow t r = 0 ∨ checkRow t r = 51 := by
  unfold checkRow
  rw [if_neg (by simpa using h0)]
  split <;> simp
theorem check_lit {t : ByteArray} {r : Row} {A : Option Addr} {c : Nat} {w : World} {n : Int} (hn : checkRow t r = n) (hs : SmallRow r) (hr : Kd.string.C w A r.f1.length r.f1) (hc : r.f1.length ≤ c) :
    Calls Tryd.prog 33 #[.string t, .agg #[.string r.f0, .slice A r.f1.length c]] w fun e w' => e = .returned (.int .i64 n) ∧ Below w.heap.size w w' := by
  rw [← hn]; exact check_any t r A c w hs hr hc

theorem add_field' (ad : Addr) (m j : Nat) (hj : 0 < j) : ad.add (m + j) = ⟨(ad.add m).block, (ad.add m).off + j, none⟩ := add_field ad m j hj
theorem at_Row {w : World} {A : Option Addr} {n : Nat} {xs : List Row} (h : kRow.C w A n xs) (k : Nat) (hk : k < n) : ∃ ad A1 c1, A = some ad ∧ w.cell? (ad.add (k * 2)) = some (.string (xs[k]!).f0) ∧
    w.cell? ⟨(ad.add (k * 2)).block, (ad.add (k * 2)).off + 1, none⟩ = some (.slice A1 (xs[k]!).f1.length c1) ∧ (xs[k]!).f1.length ≤ c1 ∧ Kd.string.C w A1 (xs[k]!).f1.length (xs[k]!).f1 := by
  obtain ⟨ad, c, e, _, hK, hc⟩ := Kd.C_get h (default : Row) (k : Int) (by omega) (by omega)
  have hx : xs.getD (k : Int).toNat default = xs[k]! := by simp [List.getD_eq_getElem?_getD]
  rw [hx] at hK
  obtain ⟨A1, c1, rfl, l1, g1⟩ := kRow_open hK
  rw [Int.toNat_natCast] at hc
  exact ⟨ad, A1, c1, e, hc 0 _ rfl, by rw [← add_field _ _ 1 (by omega)]; exact hc 1 _ rfl, l1, g1⟩

set_option maxRecDepth 100000 in
set_option maxHeartbeats 2000000 in
theorem print_steps (t : ByteArray) (l : List Row) (A : Option Addr) (c : Nat) (w : World) (hs : ∀ r ∈ l, SmallRow r) (hr : kRow.C w A l.length l) (hc : l.length ≤ c) (h0 : (tabWidth t == 0) = false) (h32 : l.length ≤ 32) :
    Calls Tryd.prog 9 #[.string t, .slice A l.length c] w fun e w' => ∃ B cc, e = .returned (.tuple #[.slice B (printP t l).1.length cc, .int .i64 (printP t l).2]) ∧ (printP t l).1.length ≤ cc ∧ kb.byte.C w' B (printP t l).1.length (printP t l).1 ∧ Below w.heap.size w w' := by
  have HR := Lib.hid hr
  have HS := Lib.hid hs
  clear hr hs
  go_enter Tryd.func9, Tryd.ntmps9
  go_wp2_with (go_at_call 34; refine (width_any t _).mono ?_; rintro e w1 ⟨rfl, hb⟩)
  have hBld : Lib.IsBuilderF 67 5 w1.heap.size w1.heap.size (Lib.byteCells (textOf (l.take 0))) (w1.alloc (.cells #[.pointer none, .slice none 0 0] 67)) := bld_new w1 _ _
  go_loopw [19] (fun i wr => ∃ k : Nat, k ≤ l.length ∧ i = .int .i64 k ∧ OkTo t l k ∧ Lib.IsBuilderF 67 5 w1.heap.size w1.heap.size (Lib.byteCells (textOf (l.take k))) wr ∧ Below w.heap.size w wr) (fun i _ => l.length - (intOf i).toNat)
  case atStart => exact ⟨0, Nat.zero_le _, rfl, fun j hj => by omega, hBld, hb.alloc (by have := hb.size; omega) _⟩
  case round =>
    obtain ⟨k, hk, rfl, hok, hbl, hB⟩ := hrel
    clear hBld
    have HB := Lib.hid hbl
    clear hbl
    by_cases hlt : k < l.length
    · have hx : l[k]! = l[k] := getElem!_pos l k hlt
      obtain ⟨ad, A1, c1, rfl, r0, r1, hc1, hC1⟩ := at_Row (Kd.C_below HR.out hB) k hlt
      rw [hx] at r0 r1 hc1 hC1
      have hpk : PK w w1.heap.size wr.heap.size l[k] A1 c1 (textOf (l.take k)) none (wr.alloc (.cells #[.string l[k].f0, .slice A1 l[k].f1.length c1] 52)) :=
        ⟨blk_new _ _, bld_below HB.out ((Below.refl _ _).alloc (Nat.le_refl _) _), hB.alloc hB.size _, Kd.C_below hC1 ((Below.refl _ _).alloc (Nat.le_refl _) _), fun _ _ e => by cases e⟩
      have HK := Lib.hid hpk
      have HX := Lib.hid hx
      have HSM := Lib.hid (HS.out l[k] (List.getElem_mem hlt))
      clear hpk hC1 hx
      generalize l[k] = r at *
      rcases checkRow_two r h0 with hck | hck
      · have HCK := Lib.hid hck
        clear hck
        have HBB := Lib.hid HB.out
        have hcase : (k ≤ 0 ∧ okRow t l k = true) ∨ (0 < k ∧ ∃ p, l[k - 1]! = p ∧ (Op.bytesLess r.f0.toList p.f0.toList || r.f0.toList == p.f0.toList) = false ∧ okRow t l k = true) ∨ (0 < k ∧ ∃ p, l[k - 1]! = p ∧ (Op.bytesLess r.f0.toList p.f0.toList || r.f0.toList == p.f0.toList) = true ∧ okRow t l k = false) := by
          have hx : l[k]! = r := HX.out
          rcases Nat.eq_zero_or_pos k with h | h
          · subst h
            exact .inl ⟨Nat.le_refl _, by unfold okRow; rw [hx, HCK.out]; rfl⟩
          · right
            have e : okRow t l k = !(leB r.f0 (l[k - 1]!).f0) := by unfold okRow; rw [hx, HCK.out]; simp; omega
            cases hb : leB r.f0 (l[k - 1]!).f0 with
            | false => exact .inl ⟨h, _, rfl, hb, by rw [e, hb]; rfl⟩
            | true => exact .inr ⟨h, _, rfl, hb, by rw [e, hb]; rfl⟩
        rcases hcase with ⟨hk0, hok1⟩ | ⟨hk0, p, hp, hle, hok1⟩ | ⟨hk0, p, hp, hle, hok1⟩
        · have hd0 : decide (0 < k) = false := decide_eq_false (by omega)
          have HOK1 := Lib.hid (hok.succ hok1)
          have hks := checkRow_key HCK.out
          obtain ⟨J, HJ, hJl⟩ := join_J HCK.out (A := A1) hc1
          have HT := Lib.hid (textOf_length hok)
          clear hok1
          go_wp2
          refine reg.region_seq (S := PK w w1.heap.size wr.heap.size r A1 c1 (textOf (l.take k)) none) (by kernel_rfl) (by kernel_rfl) (HK.out.step (below_drew (Below.refl _ _))) ?_
          iterate 19
            apply reg.seq_cons
            case h =>
              intro W hS
              have z0 := hS.cell0
              have z1 := hS.cell1
              have HS' := Lib.hid hS
              clear hS
              go_wp2_with (go_at_call 33; refine (check_lit HCK.out HSM.out HS'.out.cel hc1).mono ?_; rintro e w' ⟨rfl, hb⟩; replace HS' := Lib.hid (HS'.out.step hb))
              exact ⟨rfl, rfl, HS'.out⟩
            try simp only [Act.put, List.setIfInBounds_toArray, List.set_cons_zero, List.set_cons_succ]
          intro W hS
          have HS1 := Lib.hid hS
          clear hS
          go_wp2
          refine reg.region_last (S := PK w w1.heap.size wr.heap.size r A1 c1 (textOf (l.take k)) none) (by kernel_rfl) (by kernel_rfl) (HS1.out.step (below_drew (Below.refl _ _))) ?_
          iterate 8
            apply reg.last_cons
            case h =>
              intro W hS
              have z0 := hS.cell0
              have z1 := hS.cell1
              have HS' := Lib.hid hS
              clear hS
              go_wp2_with (go_at_call 36; refine (HJ.2 _ HS'.out.cel).mono ?_; rintro e w' ⟨rfl, hb⟩; replace HS' := Lib.hid (HS'.out.step hb))
              exact ⟨rfl, rfl, HS'.out⟩
            try simp only [Act.put, List.setIfInBounds_toArray, List.set_cons_zero, List.set_cons_succ]
          apply reg.last_one
          intro W hS
          have HW := Lib.hid (row_write HJ hks hJl hlt HX.out HT.out h32 W hS.bld (Nat.le_of_lt (bld_lt hS.bld)))
          have HS' := Lib.hid hS
          clear hS
          go_wp2_with (go_at_call 35; refine HW.out.mono ?_; rintro e w' ⟨⟨v, rfl⟩, hbl', hb'⟩)
          go_roundw
          case rel => exact ⟨k + 1, by omega, by go_num, HOK1.out, hbl', HS'.out.bel.trans (hb'.mono (by have := hb.size; omega))⟩
          case measure => simp [intOf]; omega
        · have hd0 : decide (0 < k) = true := decide_eq_true hk0
          obtain ⟨ad', A2, c2, e2, q0, _, _, _⟩ := at_Row (Kd.C_below HR.out hB) (k - 1) (by omega)
          cases e2
          rw [hp] at q0
          have HK2 := Lib.hid (HK.out.withPrev (ad.add ((k - 1) * 2)) p.f0 (pw_cell_below ((Below.refl _ _).alloc (Nat.le_refl _) _) q0))
          clear hp HK q0
          have HOK1 := Lib.hid (hok.succ hok1)
          have hks := checkRow_key HCK.out
          obtain ⟨J, HJ, hJl⟩ := join_J HCK.out (A := A1) hc1
          have HT := Lib.hid (textOf_length hok)
          clear hok1
          go_wp2
          refine reg.region_seq (S := PK w w1.heap.size wr.heap.size r A1 c1 (textOf (l.take k)) (some (ad.add ((k - 1) * 2), p.f0))) (by kernel_rfl) (by kernel_rfl) (HK2.out.step (below_drew (Below.refl _ _))) ?_
          iterate 19
            apply reg.seq_cons
            case h =>
              intro W hS
              have z0 := hS.cell0
              have z1 := hS.cell1
              have z2 := hS.prv _ _ rfl
              have HS' := Lib.hid hS
              clear hS
              go_wp2_with (go_at_call 33; refine (check_lit HCK.out HSM.out HS'.out.cel hc1).mono ?_; rintro e w' ⟨rfl, hb⟩; replace HS' := Lib.hid (HS'.out.step hb))
              exact ⟨rfl, rfl, HS'.out⟩
            try simp only [Act.put, List.setIfInBounds_toArray, List.set_cons_zero, List.set_cons_succ]
          intro W hS
          have HS1 := Lib.hid hS
          clear hS
          go_wp2
          refine reg.region_last (S := PK w w1.heap.size wr.heap.size r A1 c1 (textOf (l.take k)) (some (ad.add ((k - 1) * 2), p.f0))) (by kernel_rfl) (by kernel_rfl) (HS1.out.step (below_drew (Below.refl _ _))) ?_
          iterate 8
            apply reg.last_cons
            case h =>
              intro W hS
              have z0 := hS.cell0
              have z1 := hS.cell1
              have z2 := hS.prv _ _ rfl
              have HS' := Lib.hid hS
              clear hS
              go_wp2_with (go_at_call 36; refine (HJ.2 _ HS'.out.cel).mono ?_; rintro e w' ⟨rfl, hb⟩; replace HS' := Lib.hid (HS'.out.step hb))
              exact ⟨rfl, rfl, HS'.out⟩
            try simp only [Act.put, List.setIfInBounds_toArray, List.set_cons_zero, List.set_cons_succ]
          apply reg.last_one
          intro W hS
          have HW := Lib.hid (row_write HJ hks hJl hlt HX.out HT.out h32 W hS.bld (Nat.le_of_lt (bld_lt hS.bld)))
          have HS' := Lib.hid hS
          clear hS
          go_wp2_with (go_at_call 35; refine HW.out.mono ?_; rintro e w' ⟨⟨v, rfl⟩, hbl', hb'⟩)
          go_roundw
          case rel => exact ⟨k + 1, by omega, by go_num, HOK1.out, hbl', HS'.out.bel.trans (hb'.mono (by have := hb.size; omega))⟩
          case measure => simp [intOf]; omega
        · have hno := okRows_not hlt (t := t) hok1
          have HRES := Lib.hid (show printP t l = ([], 51) by unfold printP; rw [if_neg (by simpa using h0), if_neg (by omega), if_pos hno])
          obtain ⟨ad', A2, c2, e2, q0, _, _, _⟩ := at_Row (Kd.C_below HR.out hB) (k - 1) (by omega)
          cases e2
          rw [hp] at q0
          have HK2 := Lib.hid (HK.out.withPrev (ad.add ((k - 1) * 2)) p.f0 (pw_cell_below ((Below.refl _ _).alloc (Nat.le_refl _) _) q0))
          clear hno hok1 hok hp HK q0
          go_wp2
          refine reg.region_seq (S := PK w w1.heap.size wr.heap.size r A1 c1 (textOf (l.take k)) (some (ad.add ((k - 1) * 2), p.f0))) (by kernel_rfl) (by kernel_rfl) (HK2.out.step (below_drew (Below.refl _ _))) ?_
          iterate 19
            apply reg.seq_cons
            case h =>
              intro W hS
              have z0 := hS.cell0
              have z1 := hS.cell1
              have z2 := hS.prv _ _ rfl
              have HS' := Lib.hid hS
              clear hS
              go_wp2_with (go_at_call 33; refine (check_lit HCK.out HSM.out HS'.out.cel hc1).mono ?_; rintro e w' ⟨rfl, hb⟩; replace HS' := Lib.hid (HS'.out.step hb))
              exact ⟨rfl, rfl, HS'.out⟩
            try simp only [Act.put, List.setIfInBounds_toArray, List.set_cons_zero, List.set_cons_succ]
          intro W hS
          have HB2 := Lib.hid hS.bel
          clear hS
          go_wp2
          go_ret2
          rw [HRES.out]
          exact ⟨none, 0, rfl, Nat.zero_le _, ⟨rfl, by simp, fun h => by simp at h⟩, HB2.out⟩
      · have hno := okRows_not hlt (t := t) (by unfold okRow; rw [show l[k]! = r from HX.out, hck]; simp)
        have HRES := Lib.hid (show printP t l = ([], 51) by unfold printP; rw [if_neg (by simpa using h0), if_neg (by omega), if_pos hno])
        have HCK := Lib.hid hck
        clear hck hno
        go_wp2
        refine reg.region_seq (S := PK w w1.heap.size wr.heap.size r A1 c1 (textOf (l.take k)) none) (by kernel_rfl) (by kernel_rfl) (HK.out.step (below_drew (Below.refl _ _))) ?_
        iterate 19
          apply reg.seq_cons
          case h =>
            intro W hS
            have z0 := hS.cell0
            have z1 := hS.cell1
            have HS' := Lib.hid hS
            clear hS
            go_wp2_with (go_at_call 33; refine (check_lit HCK.out HSM.out HS'.out.cel hc1).mono ?_; rintro e w' ⟨rfl, hb⟩; replace HS' := Lib.hid (HS'.out.step hb))
            exact ⟨rfl, rfl, HS'.out⟩
          try simp only [Act.put, List.setIfInBounds_toArray, List.set_cons_zero, List.set_cons_succ]
        intro W hS
        have HB2 := Lib.hid hS.bel
        clear hS
        go_wp2
        go_ret2
        rw [HRES.out]
        exact ⟨none, 0, rfl, Nat.zero_le _, ⟨rfl, by simp, fun h => by simp at h⟩, HB2.out⟩
    · obtain rfl : k = l.length := by omega
      have hall := okRows_of hok
      have hlen : (Lib.byteCells (textOf l)).length = (textOf l).length := Lib.byteCells_length _
      have htake : textOf (l.take l.length) = textOf l := by rw [List.take_length]
      have hbb := HB.out
      rw [htake] at hbb
      have hb300 := textOf_length hok
      rw [htake] at hb300
      have HLEN := Lib.hid (Tryd.Builder_Len_f w1.heap.size w1.heap.size _ wr hbb)
      have HSTR := Lib.hid (Tryd.Builder_String_any_f w1.heap.size w1.heap.size (textOf l) wr hbb (Nat.le_of_lt (bld_lt hbb)))
      have HB1 := Lib.hid hb
      have HALL := Lib.hid hall
      rw [hlen] at HLEN
      clear hbb HB hok hall hlen htake hb
      by_cases hlong : 2432 < (textOf l).length
      · have HRES := Lib.hid (show printP t l = ([], 5) by unfold printP; rw [if_neg (by simpa using h0), if_neg (by omega), if_neg (by rw [HALL.out]; simp), if_pos hlong])
        have hd : decide (2432 < ((textOf l).length : Int)) = true := decide_eq_true (by omega)
        clear hlong
        go_wp2_with (go_at_call 37; refine HLEN.out.mono ?_; rintro e w' ⟨rfl, rfl⟩)
        go_ret2
        rw [HRES.out]
        exact ⟨none, 0, rfl, Nat.zero_le _, ⟨rfl, by simp, fun h => by simp at h⟩, hB⟩
      · have HRES := Lib.hid (show printP t l = (textOf l, 0) by unfold printP; rw [if_neg (by simpa using h0), if_neg (by omega), if_neg (by rw [HALL.out]; simp), if_neg hlong])
        have hd : decide (2432 < ((textOf l).length : Int)) = false := decide_eq_false (by omega)
        clear hlong
        have kb0 := fun W => print_bytes (P := Tryd.prog) 9 24 5 Tryd.underlying9 Tryd.underlying24 Tryd.underlying5 (⟨(textOf l).toArray⟩ : ByteArray) W
        go_wp2_with (first
          | (go_at_call 37; refine HLEN.out.mono ?_; rintro e w' ⟨rfl, rfl⟩)
          | (go_at_call 38; refine HSTR.out.mono ?_; rintro e w' ⟨rfl, hbl', hb'⟩))
        go_ret2
        rw [HRES.out]
        refine ⟨some ⟨w'.heap.size, 0, none⟩, grownCap w' (textOf l).length 0 5, rfl, grownCap_ge _ _ _ _, ?_, ?_⟩
        · exact kb.bytes_C w' ⟨(textOf l).toArray⟩ (by simp only [ByteArray.size_mk', List.size_toArray]; omega)
        · exact bytes_below (hB.trans (hb'.mono HB1.out.size)) (by have := hb'.size; have := hB.size; omega) _ _

def PrintPost (t : ByteArray) (l : List Row) (w : World) (e : Ending) (w' : World) : Prop := ∃ B cc, e = .returned (.tuple #[.slice B (printP t l).1.length cc, .int .i64 (printP t l).2]) ∧ (printP t l).1.length ≤ cc ∧ kb.byte.C w' B (printP t l).1.length (printP t l).1 ∧ Below w.heap.size w w'
theorem PrintPost.none_ {t : ByteArray} {l : List Row} {w w' : World} {n : Int} (h : printP t l = ([], n)) (hb : Below w.heap.size w w') : PrintPost t l w (.returned (.tuple #[.slice none 0 0, .int .i64 n])) w' := by
  unfold PrintPost
  rw [h]
  exact ⟨none, 0, rfl, Nat.zero_le _, ⟨rfl, by simp, fun h => by simp at h⟩, hb⟩
set_option maxRecDepth 100000 in
theorem print_any (t : ByteArray) (l : List Row) (A : Option Addr) (c : Nat) (w : World) (hs : ∀ r ∈ l, SmallRow r) (hr : kRow.C w A l.length l) (hc : l.length ≤ c) :
    Calls Tryd.prog 9 #[.string t, .slice A l.length c] w (PrintPost t l w) := by
  by_cases h0 : (tabWidth t == 0) = true
  · have H := Lib.hid (show printP t l = ([], 50) by unfold printP; rw [if_pos (by simpa using h0)])
    clear hs hr
    go_enter Tryd.func9, Tryd.ntmps9
    go_wp2_with (go_at_call 34; refine (width_any t _).mono ?_; rintro e w1 ⟨rfl, hb⟩)
    go_ret2
    exact PrintPost.none_ H.out hb
  · have h0' : (tabWidth t == 0) = false := by simpa using h0
    by_cases h32 : l.length ≤ 32
    · exact print_steps t l A c w hs hr hc h0' h32
    · have H := Lib.hid (show printP t l = ([], 5) by unfold printP; rw [if_neg (by simpa using h0), if_pos (by omega)])
      have hd : decide (32 < (l.length : Int)) = true := decide_eq_true (by omega)
      clear hs hr h0 h32
      go_enter Tryd.func9, Tryd.ntmps9
      go_wp2_with (go_at_call 34; refine (width_any t _).mono ?_; rintro e w1 ⟨rfl, hb⟩)
      go_ret2
      exact PrintPost.none_ H.out hb
end Go.Proofs.YtmjmcmohicjfkaaDoor.tab
