import Derived.Test.YtmjmcmohicjfkaaDoorTabP
/-
  spoil: writes over rows of one's own, and over nothing else.
-/
namespace Go.Proofs.YtmjmcmohicjfkaaDoor.tab
open Go.RowKit Go.Shelf Go.Proofs.YtmjmcmohicjfkaaDoorW.PrintWords

/-- All but the blocks of S is as it was. -/
structure Sp (S : Nat → Prop) (w w' : World) : Prop where
  os : w'.os = w.os
  tape : w'.tape = w.tape
  output : w'.output = w.output
  size : w'.heap.size = w.heap.size
  block : ∀ k, ¬ S k → w'.heap[k]? = w.heap[k]?
section
variable {S S' : Nat → Prop} {w W W2 : World}
theorem Sp.refl (S : Nat → Prop) (w : World) : Sp S w w := ⟨rfl, rfl, rfl, rfl, fun _ _ => rfl⟩
theorem Sp.set (h : Sp S w W) {g i : Nat} (hg : S g) (u : Value) : Sp S w (W.setCell ⟨g, i, none⟩ u) :=
  ⟨h.os, h.tape, h.output, by rw [← h.size]; simp [World.setCell], fun k hk => (Below.heap_setCell W ⟨g, i, none⟩ u k (fun e => hk (by rw [e]; exact hg))).trans (h.block k hk)⟩
theorem Sp.below (h : Sp S w W) {B : Nat} (hB : ∀ k, S k → B ≤ k) : Below B w W :=
  ⟨h.os, h.tape, h.output, by rw [h.size]; exact Nat.le_refl _, fun k hk => h.block k (fun hs => by have := hB k hs; omega)⟩
end
/-- A row's cells may be written. -/
def CellsOk (S : Nat → Prop) (W : World) (u : Value) : Prop := ∃ A m c, u = .slice A m c ∧ m ≤ 9223372036854775807 ∧ (m = 0 ∨ ∃ h cs, A = some ⟨h, 0, none⟩ ∧ S h ∧ W.heap[h]? = some (.cells cs 9 (0, 0)) ∧ m ≤ cs.size)
/-- Rows that may be written. -/
def Pl (S : Nat → Prop) (W : World) (g n : Nat) : Prop := ∃ cells, W.heap[g]? = some (.cells cells 52 (0, 0)) ∧ ∀ j, j < n → ∃ s u, cells[j * 2]? = some (.string s) ∧ cells[j * 2 + 1]? = some u ∧ CellsOk S W u
section
variable {S : Nat → Prop} {W W2 : World} {g n h i : Nat} {u : Value} {cs : Array Value}
theorem CellsOk.set (hc : CellsOk S W u) (hh : W.heap[h]? = some (.cells cs 9 (0, 0))) (v : Value) : CellsOk S (W.setCell ⟨h, i, none⟩ v) u := by
  obtain ⟨A, m, c, rfl, hm, hk⟩ := hc
  refine ⟨A, m, c, rfl, hm, ?_⟩
  rcases hk with rfl | ⟨h', cs', rfl, hS, hb, hl⟩
  · exact .inl rfl
  · right
    by_cases e : h' = h
    · subst e
      rw [hh] at hb
      injection hb with hb; injection hb with hb
      subst hb
      exact ⟨h', _, rfl, hS, blk_put hh i v rfl, by simpa using hl⟩
    · exact ⟨h', cs', rfl, hS, (Below.heap_setCell W ⟨h, i, none⟩ v h' e).trans hb, hl⟩
theorem CellsOk.row (hc : CellsOk S W u) {cells : Array Value} (hg : W.heap[g]? = some (.cells cells 52 (0, 0))) (v : Value) : CellsOk S (W.setCell ⟨g, i, none⟩ v) u := by
  obtain ⟨A, m, c, rfl, hm, hk⟩ := hc
  refine ⟨A, m, c, rfl, hm, ?_⟩
  rcases hk with rfl | ⟨h', cs', rfl, hS, hb, hl⟩
  · exact .inl rfl
  · have e : h' ≠ g := blk_ne hb hg (by decide)
    exact .inr ⟨h', cs', rfl, hS, (Below.heap_setCell W ⟨g, i, none⟩ v h' e).trans hb, hl⟩
theorem Pl.cell (hp : Pl S W g n) (hh : W.heap[h]? = some (.cells cs 9 (0, 0))) (v : Value) : Pl S (W.setCell ⟨h, i, none⟩ v) g n := by
  obtain ⟨cells, hg, hj⟩ := hp
  have e : g ≠ h := blk_ne hg hh (by decide)
  refine ⟨cells, (Below.heap_setCell W ⟨h, i, none⟩ v g e).trans hg, fun j hjn => ?_⟩
  obtain ⟨s, u, h1, h2, h3⟩ := hj j hjn
  exact ⟨s, u, h1, h2, h3.set hh v⟩
theorem Pl.key (hp : Pl S W g n) (j : Nat) (s' : ByteArray) : Pl S (W.setCell ⟨g, j * 2, none⟩ (.string s')) g n := by
  obtain ⟨cells, hg, hj⟩ := hp
  refine ⟨cells.setIfInBounds (j * 2) (.string s'), blk_put hg (j * 2) _ rfl, fun i hi => ?_⟩
  obtain ⟨s, u, h1, h2, h3⟩ := hj i hi
  have h2' : (cells.setIfInBounds (j * 2) (.string s'))[i * 2 + 1]? = some u := by
    rw [Array.getElem?_setIfInBounds, if_neg (by omega)]; exact h2
  by_cases e : i = j
  · subst e
    have hl : i * 2 < cells.size := (Array.getElem?_eq_some_iff.1 h1).1
    exact ⟨s', u, by rw [Array.getElem?_setIfInBounds, if_pos rfl, if_pos hl], h2', h3.row hg _⟩
  · exact ⟨s, u, by rw [Array.getElem?_setIfInBounds, if_neg (by omega)]; exact h1, h2', h3.row hg _⟩
end
def spoilt : ByteArray := ⟨#[115, 112, 111, 105, 108, 116]⟩

set_option maxRecDepth 100000 in
set_option maxHeartbeats 2000000 in
theorem spoil_some (S : Nat → Prop) (g n c : Nat) (w : World) (hP : Pl S w g n) (hS : S g) (hn : n ≤ 9223372036854775807) :
    Calls Tryd.prog 31 #[.slice (some ⟨g, 0, none⟩) n c] w fun e w' => e = .returned (.tuple #[]) ∧ Sp S w w' := by
  have HS := Lib.hid hS
  clear hS
  go_enter Tryd.func31, Tryd.ntmps31
  go_wp2
  go_loopw [2] (fun i wr => ∃ k : Nat, k ≤ n ∧ i = .int .i64 k ∧ Pl S wr g n ∧ Sp S w wr) (fun i _ => n - (intOf i).toNat)
  case atStart => exact ⟨0, Nat.zero_le _, rfl, hP, Sp.refl _ _⟩
  case round =>
    obtain ⟨k, hk, rfl, hp, hsp⟩ := hrel
    clear hP
    by_cases hlt : k < n
    · have hd : decide ((k : Int) < (n : Int)) = true := decide_eq_true (by omega)
      have hp1 := hp.key k spoilt
      have hsp1 := hsp.set (i := k * 2) HS.out (.string spoilt)
      obtain ⟨cells, hg, hj⟩ := hp
      obtain ⟨s, u, h1, h2, h3⟩ := hj k hlt
      have c0 : wr.cell? ⟨g, k * 2, none⟩ = some (.string s) := (blk_cell hg _).trans h1
      have f0 := blk_frozen hg (k * 2)
      have hu : (cells.setIfInBounds (k * 2) (.string spoilt))[k * 2 + 1]? = some u := by
        rw [Array.getElem?_setIfInBounds, if_neg (by omega)]; exact h2
      have hg1 := blk_put hg (k * 2) (.string spoilt) rfl
      have h31 := h3.row (i := k * 2) hg (.string spoilt)
      have hcu : (wr.setCell ⟨g, k * 2, none⟩ (.string spoilt)).cell? ⟨g, k * 2 + 1, none⟩ = some u := (blk_cell hg1 _).trans hu
      unfold spoilt at hp1 hsp1 hcu h31 hg1
      obtain ⟨W1, hW1⟩ : ∃ W1, wr.setCell ⟨g, k * 2, none⟩ (.string { data := #[115, 112, 111, 105, 108, 116] }) = W1 := ⟨_, rfl⟩
      rw [hW1] at hp1 hsp1 hcu h31 hg1
      clear hg hj h1 h2 h3 hu hsp
      obtain ⟨A, m, cc, rfl, hm, hcs⟩ := h31
      have HP1 := Lib.hid hp1
      have HSP1 := Lib.hid hsp1
      have HCS := Lib.hid hcs
      clear hp1 hsp1 hcs
      have HG1 := Lib.hid hg1
      clear hg1
      go_wp2
      go_loopw [3] (fun q wr2 => ∃ j : Nat, j ≤ m ∧ q = .int .i64 j ∧ wr2.cell? ⟨g, k * 2 + 1, none⟩ = some (.slice A m cc) ∧ (m = 0 ∨ ∃ h cs, A = some ⟨h, 0, none⟩ ∧ S h ∧ wr2.heap[h]? = some (.cells cs 9 (0, 0)) ∧ m ≤ cs.size) ∧ Pl S wr2 g n ∧ Sp S w wr2) (fun q _ => m - (intOf q).toNat)
      case atStart => exact ⟨0, Nat.zero_le _, rfl, hcu, HCS.out, HP1.out, HSP1.out⟩
      case round =>
        obtain ⟨j, hjm, rfl, hcu2, hcs2, hp2, hsp2⟩ := hrel
        clear hcu
        by_cases hjl : j < m
        · have hd2 : decide ((j : Int) < (m : Int)) = true := decide_eq_true (by omega)
          obtain ⟨h, cs, rfl, hSh, hb, hl⟩ := hcs2.resolve_left (by omega)
          have hjc : cs[j]? = some cs[j] := Array.getElem?_eq_getElem (by omega)
          have c2 := (blk_cell hb j).trans hjc
          have f2 := blk_frozen hb j
          generalize cs[j] = x at *
          have hp3 := hp2.cell (i := j) hb (.string spoilt)
          have hsp3 := hsp2.set (i := j) hSh (.string spoilt)
          have hb3 := blk_put hb j (.string spoilt) rfl
          have hgh : g ≠ h := by obtain ⟨cells, hg, _⟩ := hp2; exact blk_ne hg hb (by decide)
          have hcu3 : (wr.setCell ⟨h, j, none⟩ (.string spoilt)).cell? ⟨g, k * 2 + 1, none⟩ = some (.slice (some ⟨h, 0, none⟩) m cc) := by
            have := Below.heap_setCell wr ⟨h, j, none⟩ (.string spoilt) g hgh
            simpa [World.cell?, this] using hcu2
          unfold spoilt at hp3 hsp3 hb3 hcu3
          obtain ⟨W3, hW3⟩ : ∃ W3, wr.setCell ⟨h, j, none⟩ (.string { data := #[115, 112, 111, 105, 108, 116] }) = W3 := ⟨_, rfl⟩
          rw [hW3] at hp3 hsp3 hb3 hcu3
          have HH := Lib.hid (And.intro hp3 (And.intro hsp3 (And.intro hb3 hcu3)))
          clear hp3 hsp3 hb3 hcu3 hb hp2 hsp2
          go_wp2
          obtain ⟨hp3, hsp3, hb3, hcu3⟩ := HH.out
          go_roundw
          case rel => exact ⟨j + 1, by omega, by go_num, hcu3, .inr ⟨h, _, rfl, hSh, hb3, by simpa using hl⟩, hp3, hsp3⟩
          case measure => simp [intOf]; omega
        · obtain rfl : j = m := by omega
          have hd2 : decide ((j : Int) < (j : Int)) = false := decide_eq_false (by omega)
          have HP2 := Lib.hid hp2
          clear hp2 hcs2
          go_wp2
          go_roundw
          case rel => exact ⟨k + 1, by omega, by go_num, HP2.out, hsp2⟩
          case measure => simp [intOf]; omega
    · obtain rfl : k = n := by omega
      have hd : decide ((k : Int) < (k : Int)) = false := decide_eq_false (by omega)
      have HP2 := Lib.hid hp
      clear hp
      go_wp2
      go_end0
      exact ⟨rfl, hsp⟩
end Go.Proofs.YtmjmcmohicjfkaaDoor.tab
