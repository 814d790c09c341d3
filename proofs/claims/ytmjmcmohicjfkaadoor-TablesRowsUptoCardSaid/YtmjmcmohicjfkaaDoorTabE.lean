import Derived.Test.YtmjmcmohicjfkaaDoorTabD
import Derived.Test.YtmjmcmohicjfkaaDoorRng
import Derived.Test.YtmjmcmohicjfkaaDoorReg
namespace Go.Proofs.YtmjmcmohicjfkaaDoor.lines
open Go.RowKit Go.Shelf Go.Proofs.YtmjmcmohicjfkaaDoorW.PrintWords
attribute [local go_sem] Oper.semAt_some

/-- The lines of a text, one by one. -/
def LinesOf : List ByteArray → List UInt8 → Prop
  | [], s => s = []
  | x :: xs, s => (∃ y r, (10 : UInt8) ∉ y ∧ x.data.toList = y ++ [10] ∧ s = x.data.toList ++ r ∧ LinesOf xs r) ∨ ((10 : UInt8) ∉ x.data.toList ∧ x.data.toList ≠ [] ∧ s = x.data.toList ∧ xs = [])
/-- The iterator's own steps: the box of the rest is written. -/
structure Stp (Bs : Nat) (A B : World) : Prop where
  bel : Below Bs A B
  oth : ∀ k, k ≠ Bs → k < A.heap.size → B.heap[k]? = A.heap[k]?
  cel : ∃ o : Obj, A.heap[Bs]? = some o ∧ o.isCells = true
theorem Stp.keeps {Bs : Nat} {A B : World} (h : Stp Bs A B) : KeepsOthers A B := by
  refine ⟨h.bel.size, fun k o hk ho => ?_⟩
  by_cases e : k = Bs
  · subst e
    obtain ⟨o', h1, h2⟩ := h.cel
    rw [hk] at h1; cases h1; rw [ho] at h2; cases h2
  · rw [h.oth k e (Array.getElem?_eq_some_iff.1 hk).1, hk]
def St (Bs : Nat) (xs : List ByteArray) (pre : List ByteArray) (W : World) : Prop := ∃ s : ByteArray, W.heap[Bs]? = some (.cells #[.string s] 9 (0, 0)) ∧ LinesOf (xs.drop pre.length) s.data.toList ∧ s.size ≤ 140737488351232

theorem stp_of {Bs : Nat} {s s' : ByteArray} {w W : World} (h : Drawn0 w W) (hb : w.heap[Bs]? = some (.cells #[.string s] 9 (0, 0))) : Stp Bs w (W.setCell ⟨Bs, 0, none⟩ (.string s')) := by
  obtain ⟨n, rfl⟩ := h.out
  refine ⟨(pw_below_drewN (Below.refl Bs w) n).setCell (Nat.le_refl Bs) _, fun k hk _ => ?_, _, hb, rfl⟩
  exact Below.heap_setCell (w.drewN n) ⟨Bs, 0, none⟩ _ k hk
theorem box_put {Bs : Nat} {s s' : ByteArray} {w W : World} (h : Drawn0 w W) (hb : w.heap[Bs]? = some (.cells #[.string s] 9 (0, 0))) : (W.setCell ⟨Bs, 0, none⟩ (.string s')).heap[Bs]? = some (.cells #[.string s'] 9 (0, 0)) := by
  obtain ⟨n, rfl⟩ := h.out
  exact blk_put (w := w.drewN n) hb 0 _ rfl

set_option maxRecDepth 100000 in
set_option maxHeartbeats 1000000 in
/-- strings.Lines: the text lies in a box of its own. -/
theorem lines_any (s : ByteArray) (w : World) : Calls Tryd.prog 64 #[.string s] w fun e w' => e = .returned (.func (.func 83) #[] #[.pointer (some ⟨w.heap.size, 0, none⟩)]) ∧ w' = w.alloc (.cells #[.string s] 9) := by
  go_enter Tryd.func64, Tryd.ntmps64
  go_wp2
  go_ret
  exact ⟨rfl, rfl⟩

/-- What is left in the box. -/
def boxSize (Bs : Nat) (W : World) : Nat := match W.heap[Bs]? with | some (Obj.cells cs _ _) => (match cs[0]? with | some (Value.string s) => s.size | _ => 0) | _ => 0
theorem boxSize_of {Bs : Nat} {W : World} {s : ByteArray} (h : W.heap[Bs]? = some (.cells #[.string s] 9 (0, 0))) : boxSize Bs W = s.size := by simp [boxSize, h]
theorem lines_flat : ∀ (xs : List ByteArray) (s : List UInt8), LinesOf xs s → s = xs.flatMap (·.data.toList)
  | [], s, h => by simpa [LinesOf] using h
  | x :: xs, s, h => by
    rcases h with ⟨y, r, _, _, rfl, hr⟩ | ⟨_, _, rfl, rfl⟩
    · rw [lines_flat xs r hr]; simp
    · simp
theorem line_pos {x : ByteArray} {xs : List ByteArray} {s : List UInt8} (h : LinesOf (x :: xs) s) : 0 < x.data.toList.length := by
  rcases h with ⟨y, r, _, hx, _⟩ | ⟨_, hx, _⟩
  · rw [hx]; simp
  · exact List.length_pos_iff.2 hx
theorem meas_less {Bs : Nat} {xs pre xs' : List ByteArray} {x s : ByteArray} {wr W : World} (he : xs = pre ++ x :: xs') (hbx : wr.heap[Bs]? = some (.cells #[.string s] 9 (0, 0))) (hl : LinesOf (x :: xs') s.data.toList) (hS : St Bs xs (pre ++ [x]) W) : boxSize Bs W < boxSize Bs wr := by
  obtain ⟨s', hb', hl', _⟩ := hS
  have e : xs.drop (pre ++ [x]).length = xs' := by rw [he]; simp
  rw [e] at hl'
  rw [boxSize_of hbx, boxSize_of hb', ← data_length, ← data_length, lines_flat _ _ hl, lines_flat _ _ hl']
  have := line_pos hl
  simp only [List.flatMap_cons, List.length_append]
  omega

theorem index_line : ∀ {y : List UInt8}, (10 : UInt8) ∉ y → ∀ r, Lib.indexByte (y ++ ([10] ++ r)) 10 = (y.length : Int)
  | [], _, r => by simp [Lib.indexByte]
  | c :: y, h, r => by
    have hc : ¬ c = 10 := fun e => h (by simp [e])
    have ih := index_line (y := y) (fun hm => h (by simp [hm])) r
    have hb : (c == 10) = false := by simpa using hc
    rw [List.cons_append]
    unfold Lib.indexByte
    rw [hb, ih]
    simp only [List.length_cons, Bool.false_eq_true, if_false]
    rw [if_neg (by simp)]
    omega
theorem index_none : ∀ {y : List UInt8}, (10 : UInt8) ∉ y → Lib.indexByte y 10 = -1
  | [], _ => by simp [Lib.indexByte]
  | c :: y, h => by
    have hc : ¬ c = 10 := fun e => h (by simp [e])
    have ih := index_none (y := y) (fun hm => h (by simp [hm]))
    simp [Lib.indexByte, hc, ih]
theorem index_of {xs : List ByteArray} {s : ByteArray} (h : LinesOf xs s.data.toList) (hne : s.size ≠ 0) : ∃ x xs', xs = x :: xs' ∧
    ((∃ i : Nat, Lib.indexByte s.data.toList 10 = i ∧ i + 1 ≤ s.size ∧ s.extract 0 (i + 1) = x ∧ LinesOf xs' (s.extract (i + 1) s.size).data.toList) ∨ (Lib.indexByte s.data.toList 10 = -1 ∧ x = s ∧ xs' = [])) := by
  cases xs with
  | nil => exact absurd (by rw [← data_length]; exact List.length_eq_zero_iff.2 h) hne
  | cons x xs' =>
    refine ⟨x, xs', rfl, ?_⟩
    rcases h with ⟨y, r, hy, hx, hs, hl⟩ | ⟨hx, _, hs, rfl⟩
    · left
      have hlen : s.size = y.length + 1 + r.length := by rw [← data_length, hs, hx]; simp; omega
      refine ⟨y.length, ?_, by omega, ?_, ?_⟩
      · rw [hs, hx, List.append_assoc]; exact index_line hy _
      · apply ByteArray.ext
        apply Array.toList_inj.1
        rw [ByteArray.data_extract, Array.toList_extract, hs]
        have e : y.length + 1 = x.data.toList.length := by rw [hx]; simp
        rw [e]
        simp [List.extract]
      · rw [ByteArray.data_extract, Array.toList_extract, hs]
        have e : y.length + 1 = x.data.toList.length := by rw [hx]; simp
        have e2 : s.size = x.data.toList.length + r.length := by rw [hlen, e]
        rw [e, e2]
        simpa [List.extract] using hl
    · right
      refine ⟨?_, ?_, rfl⟩
      · rw [hs]; exact index_none hx
      · apply ByteArray.ext; apply Array.toList_inj.1; exact hs.symm

set_option maxRecDepth 100000 in
set_option maxHeartbeats 2000000 in
theorem lines_iter (Bs : Nat) (xs : List ByteArray) : rng.Iter Tryd.prog 83 #[.pointer (some ⟨Bs, 0, none⟩)] (fun x : ByteArray => #[.string x]) xs (St Bs xs) (Stp Bs) := by
  intro lp J Jx W hst hY h0 hS0
  refine callsIn_of_wp Tryd.func83 rfl trivial ?_ rfl
  simp only [Tryd.ntmps83, List.size_toArray, List.length_cons, List.length_nil, Nat.reduceAdd, Nat.reduceSub, Array.replicate_succ, Array.replicate_zero, List.push_toArray, List.append_toArray, List.nil_append, List.cons_append]
  gi_wp2
  gi_loopw [3] (fun _ wr => ∃ pre rest, xs = pre ++ rest ∧ J pre wr ∧ St Bs xs pre wr) (fun _ W => boxSize Bs W)
  case atStart => exact ⟨[], xs, rfl, h0, hS0⟩
  case round =>
    obtain ⟨pre, rest, he, hJ, s, hbx, hl, hsz⟩ := hrel
    have z0 : wr.cell? ⟨Bs, 0, none⟩ = some (.string s) := (blk_cell hbx 0).trans rfl
    have hdrop : xs.drop pre.length = rest := by rw [he]; simp
    rw [hdrop] at hl
    have hl0 := hl
    by_cases hne : s.size = 0
    · have hr : rest = [] := by
        have hs0 : s.data.toList = [] := by rw [← List.length_eq_zero_iff, data_length]; exact hne
        rw [hs0] at hl
        cases rest with
        | nil => rfl
        | cons x r => rcases hl with ⟨y, r', _, hx, hs, _⟩ | ⟨_, hx, hs, _⟩
                      · rw [hx] at hs; simp at hs
                      · exact absurd hs.symm hx
      subst hr
      have hd : decide (0 < (s.size : Int)) = false := decide_eq_false (by omega)
      gi_wp2
      go_end0
      exact ⟨⟨_, rfl⟩, .inl (by rw [he, List.append_nil]; exact hJ)⟩
    · have hd : decide (0 < (s.size : Int)) = true := decide_eq_true (by omega)
      obtain ⟨x, xs', rfl, ⟨i, hi, his, hx, hl'⟩ | ⟨hi, rfl, rfl⟩⟩ := index_of hl hne
      · have hd2 : decide ((0 : Int) ≤ i) = true := decide_eq_true (by omega)
        gi_wp2_with (refine ⟨trivial, rfl, ?_⟩; gi_at_call 84; refine CallsIn.mono (callsIn_wide.2 (Tryd.strings_IndexByte _ 10 _)) ?_; rintro e w1 ⟨rfl, hw⟩; have hw' := hw.symm; subst hw'; rw [show (10 : Int).toNat.toUInt8 = 10 from rfl, hi])
        refine wpIn_wide.2 (reg.region_last (S := Drawn0 wr) (by kernel_rfl) (by kernel_rfl) ⟨⟨1, rfl⟩⟩ ?_)
        iterate 9
          apply reg.last_cons
          case h =>
            intro W hS
            have z0 : W.cell? ⟨Bs, 0, none⟩ = some (.string s) := by obtain ⟨n, rfl⟩ := hS.out; exact z0
            have HS' := Lib.hid hS
            clear hS
            go_wp2
            exact ⟨rfl, rfl, HS'.out⟩
          try simp only [Act.put, List.setIfInBounds_toArray, List.set_cons_zero, List.set_cons_succ]
        apply reg.last_one
        intro W hS
        obtain ⟨n, rfl⟩ := hS.out
        have z1 : (wr.drewN n).cell? ⟨Bs, 0, none⟩ = some (.string s) := z0
        have z2 : (wr.drewN n).frozen? ⟨Bs, 0, none⟩ = false := blk_frozen hbx 0
        have hstp := stp_of (s' := s.extract (i + 1) s.size) hS hbx
        have hb2 := box_put (s' := s.extract (i + 1) s.size) hS hbx
        have hSt : St Bs xs (pre ++ [x]) ((wr.drewN n).setCell ⟨Bs, 0, none⟩ (.string (s.extract (i + 1) s.size))) := ⟨_, hb2, by rw [he]; simpa using hl', by rw [ByteArray.size_extract]; omega⟩
        have hJ2 := hst pre _ _ hJ hstp
        obtain ⟨fn, tmps, assign, body, hy, hR⟩ := hY pre x _ ⟨xs', by rw [he]; simp⟩ hJ2 hSt
        clear hY hl' hl hi
        go_wp2
        gi_wp2
        refine ⟨rfl, hR.mono ?_⟩
        rintro e W3 (⟨rfl, hJ3, hS3⟩ | ⟨rfl, hJx3⟩)
        · gi_wp2
          go_roundw
          case rel => exact ⟨pre ++ [x], xs', by rw [he]; simp, hJ3, hS3⟩
          case measure => exact meas_less he hbx hl0 hS3
        · gi_wp2
          refine bodyPost_ret (results_none rfl _ _ _) rfl ?_
          exact ⟨⟨_, rfl⟩, .inr hJx3⟩
      · have hstp := stp_of (s' := ⟨#[]⟩) (Drawn0.refl wr) hbx
        have hb2 := box_put (s' := ⟨#[]⟩) (Drawn0.refl wr) hbx
        have z2 : wr.frozen? ⟨Bs, 0, none⟩ = false := blk_frozen hbx 0
        have hSt : St Bs xs (pre ++ [x]) (wr.setCell ⟨Bs, 0, none⟩ (.string ⟨#[]⟩)) := ⟨_, hb2, by rw [he]; simp [LinesOf], Nat.zero_le _⟩
        have hJ2 := hst pre _ _ hJ hstp
        obtain ⟨fn, tmps, assign, body, hy, hR⟩ := hY pre x _ ⟨[], by rw [he]; simp⟩ hJ2 hSt
        clear hY hl
        gi_wp2_with (refine ⟨trivial, rfl, ?_⟩; gi_at_call 84; refine CallsIn.mono (callsIn_wide.2 (Tryd.strings_IndexByte _ 10 _)) ?_; rintro e w1 ⟨rfl, hw⟩; have hw' := hw.symm; subst hw'; rw [show (10 : Int).toNat.toUInt8 = 10 from rfl, hi])
        refine ⟨rfl, hR.mono ?_⟩
        rintro e W3 (⟨rfl, hJ3, hS3⟩ | ⟨rfl, hJx3⟩)
        · gi_wp2
          go_roundw
          case rel => exact ⟨pre ++ [x], [], by rw [he]; simp, hJ3, hS3⟩
          case measure => exact meas_less he hbx hl0 hS3
        · gi_wp2
          refine bodyPost_ret (results_none rfl _ _ _) rfl ?_
          exact ⟨⟨_, rfl⟩, .inr hJx3⟩
end Go.Proofs.YtmjmcmohicjfkaaDoor.lines
