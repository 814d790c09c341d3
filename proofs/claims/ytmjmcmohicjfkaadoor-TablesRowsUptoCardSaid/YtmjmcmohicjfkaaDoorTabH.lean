import Derived.Test.YtmjmcmohicjfkaaDoorTabF
import Derived.Test.YtmjmcmohicjfkaaDoorTabG
import Derived.Lib.SlBytesConst
import Derived.Lib.SmallJoins
namespace Go.Proofs.YtmjmcmohicjfkaaDoor.tab
open Go.RowKit Go.Shelf Go.Proofs.YtmjmcmohicjfkaaDoorW.PrintWords

def tG : ByteArray := ⟨#[103, 114, 111, 117, 112, 115]⟩
def rOps : Row := ⟨⟨#[111, 112, 115]⟩, [⟨#[49, 48]⟩]⟩
def rWheel : Row := ⟨⟨#[119, 104, 101, 101, 108]⟩, [⟨#[48]⟩]⟩
theorem tG_width : (tabWidth tG == 0) = false := by decide
theorem print_shown : printP tG [rOps, rWheel] = ([111, 112, 115, 58, 49, 48, 10, 119, 104, 101, 101, 108, 58, 48, 10], 0) := by decide +kernel
theorem parse_shown1 : parseP tG [111, 112, 115, 58, 49, 48, 10] [⟨#[111, 112, 115, 58, 49, 48, 10]⟩] = ([rOps], 0) := by decide +kernel
theorem parse_shown2 : parseP tG [111, 112, 115, 58, 49, 48] [⟨#[111, 112, 115, 58, 49, 48]⟩] = ([], 51) := by decide +kernel
theorem parse_shown3 : parseP tG [] [] = ([], 0) := by decide +kernel
theorem check_shown : checkRow ⟨#[109, 111, 117, 110, 116, 115]⟩ ⟨⟨#[97]⟩, []⟩ = 50 := by decide +kernel
theorem col1 : ∀ x ∈ [(⟨#[111, 112, 115, 58, 49, 48, 10]⟩ : ByteArray)], 2 ≤ (wordsOf x).length ∧ (wordsOf x).length = Lib.countB (cutLine x) colon + 1 ∧ (∀ y ∈ wordsOf x, y.size ≤ 1000) ∧ (wordsOf x).length ≤ 1000 ∧ x.size ≤ 1000 := by decide +kernel
theorem col2 : ∀ x ∈ [(⟨#[111, 112, 115, 58, 49, 48]⟩ : ByteArray)], 2 ≤ (wordsOf x).length ∧ (wordsOf x).length = Lib.countB (cutLine x) colon + 1 ∧ (∀ y ∈ wordsOf x, y.size ≤ 1000) ∧ (wordsOf x).length ≤ 1000 ∧ x.size ≤ 1000 := by decide +kernel
theorem lines1 : lines.LinesOf [⟨#[111, 112, 115, 58, 49, 48, 10]⟩] [111, 112, 115, 58, 49, 48, 10] := .inl ⟨[111, 112, 115, 58, 49, 48], [], by decide, rfl, rfl, rfl⟩
theorem lines2 : lines.LinesOf [⟨#[111, 112, 115, 58, 49, 48]⟩] [111, 112, 115, 58, 49, 48] := .inr ⟨by decide, by decide, rfl, rfl⟩

theorem str_block {W : World} {g : Nat} {t : TypeId} {xs : List ByteArray} (h : W.heap[g]? = some (.cells (xs.map Value.string).toArray t (0, 0))) (hl : xs.length ≤ 9223372036854775807) : Kd.string.C W (some ⟨g, 0, none⟩) xs.length xs := by
  refine ⟨rfl, hl, fun _ => ⟨_, rfl, fun j p hj => ⟨[.string p], rfl, rfl, fun i u hu => ?_⟩⟩⟩
  obtain ⟨rfl, rfl⟩ : i = 0 ∧ u = .string p := by
    cases i with
    | zero => exact ⟨rfl, by simpa using hu.symm⟩
    | succ i => simp at hu
  rw [add_plain, Nat.add_zero, show j * Kd.string.sz = j from Nat.mul_one j, blk_cell h j]
  simp [hj]
/-- Rows that lie in a block. -/
theorem row_block {W : World} {g : Nat} {t : TypeId} {cs : Array Value} {xs : List Row} (h : W.heap[g]? = some (.cells cs t (0, 0))) (hl : xs.length ≤ 9223372036854775807)
    (hx : ∀ j p, xs[j]? = some p → ∃ A c, cs[j * 2]? = some (.string p.f0) ∧ cs[j * 2 + 1]? = some (.slice A p.f1.length c) ∧ p.f1.length ≤ c ∧ Kd.string.C W A p.f1.length p.f1) : kRow.C W (some ⟨g, 0, none⟩) xs.length xs := by
  refine ⟨rfl, hl, fun _ => ⟨_, rfl, fun j p hj => ?_⟩⟩
  obtain ⟨A, c, h0, h1, hc, hC⟩ := hx j p hj
  refine ⟨[.string p.f0, .slice A p.f1.length c], rfl, ⟨[.string p.f0], [.slice A p.f1.length c], rfl, rfl, A, c, rfl, hc, hC⟩, fun i u hu => ?_⟩
  rw [add_plain, show j * kRow.sz = j * 2 from rfl, blk_cell h]
  match i with
  | 0 => simp at hu; subst hu; exact h0
  | 1 => simp at hu; subst hu; exact h1
  | i + 2 => simp at hu
theorem shown_rows (w : World) : kRow.C (((w.alloc (.cells #[.string ⟨#[49, 48]⟩] 9)).alloc (.cells #[.string ⟨#[48]⟩] 9)).alloc (.cells #[.string ⟨#[111, 112, 115]⟩, .slice (some ⟨w.heap.size, 0, none⟩) 1 1, .string ⟨#[119, 104, 101, 101, 108]⟩, .slice (some ⟨w.heap.size + 1, 0, none⟩) 1 1] 52))
    (some ⟨w.heap.size + 2, 0, none⟩) 2 [rOps, rWheel] := by
  obtain ⟨w1, h1⟩ : ∃ w1, w.alloc (.cells #[.string ⟨#[49, 48]⟩] 9) = w1 := ⟨_, rfl⟩
  have b1 : w1.heap[w.heap.size]? = some (.cells #[.string ⟨#[49, 48]⟩] 9 (0, 0)) := by rw [← h1]; exact blk_new _ _
  have s1 : w1.heap.size = w.heap.size + 1 := by rw [← h1]; simp
  rw [h1]
  obtain ⟨w2, h2⟩ : ∃ w2, w1.alloc (.cells #[.string ⟨#[48]⟩] 9) = w2 := ⟨_, rfl⟩
  have b2 : w2.heap[w.heap.size + 1]? = some (.cells #[.string ⟨#[48]⟩] 9 (0, 0)) := by rw [← h2, ← s1]; exact blk_new _ _
  have b3 : w2.heap[w.heap.size]? = some (.cells #[.string ⟨#[49, 48]⟩] 9 (0, 0)) := by rw [← h2]; exact blk_alloc b1 _
  have s2 : w2.heap.size = w.heap.size + 2 := by rw [← h2]; simp [s1]
  rw [h2, ← s2]
  refine row_block (xs := [rOps, rWheel]) (blk_new _ _) (by decide) (fun j p hj => ?_)
  match j with
  | 0 => simp at hj; subst hj; exact ⟨_, 1, rfl, rfl, by decide, str_block (xs := [⟨#[49, 48]⟩]) (blk_alloc b3 _) (by decide)⟩
  | 1 => simp at hj; subst hj; exact ⟨_, 1, rfl, rfl, by decide, str_block (xs := [⟨#[48]⟩]) (blk_alloc b2 _) (by decide)⟩
  | j + 2 => simp at hj
theorem byte_mark (w : World) (l : List UInt8) (fr : Nat × Nat) (hl : l.length ≤ 9223372036854775807) : kb.byte.C (w.alloc (.cells (l.map fun b => Value.int .u8 (b.toNat : Int)).toArray 5 fr)) (some ⟨w.heap.size, 0, none⟩) l.length l := by
  refine ⟨rfl, hl, fun _ => ⟨_, rfl, fun j p hj => ⟨[.int .u8 (p.toNat : Int)], rfl, rfl, fun i u hu => ?_⟩⟩⟩
  obtain ⟨rfl, rfl⟩ : i = 0 ∧ u = .int .u8 (p.toNat : Int) := by
    cases i with
    | zero => exact ⟨rfl, by simpa using hu.symm⟩
    | succ i => simp at hu
  rw [add_plain, Nat.add_zero, show j * kb.byte.sz = j from Nat.mul_one j, World.cell?_alloc_mark]
  simp [hj]
/-- A literal's bytes: what the conversion makes, and what is read. -/
theorem lit1 (w : World) : ∃ W, w.alloc (.cells #[.int .u8 111, .int .u8 112, .int .u8 115, .int .u8 58, .int .u8 49, .int .u8 48, .int .u8 10] 5 (7, 8)) = W ∧
    (convert 24 24 (.slice (some ⟨w.heap.size, 0, none⟩) 7 7)).run Tryd.prog (w.alloc (.cells #[.int .u8 111, .int .u8 112, .int .u8 115, .int .u8 58, .int .u8 49, .int .u8 48, .int .u8 10] 5)) = .ok (.slice (some ⟨w.heap.size, 0, none⟩) 7 7) W ∧
    kb.byte.C W (some ⟨w.heap.size, 0, none⟩) 7 [111, 112, 115, 58, 49, 48, 10] ∧ Below w.heap.size w W :=
  ⟨_, rfl, Lib.run_convert_bytes_const w 24 5 #[.int .u8 111, .int .u8 112, .int .u8 115, .int .u8 58, .int .u8 49, .int .u8 48, .int .u8 10] 7 7 Tryd.underlying24 Tryd.underlying5, byte_mark w [111, 112, 115, 58, 49, 48, 10] (7, 8) (by decide), below_alloc (Below.refl _ _) _⟩
theorem lit2 (w : World) : ∃ W, w.alloc (.cells #[.int .u8 111, .int .u8 112, .int .u8 115, .int .u8 58, .int .u8 49, .int .u8 48] 5 (6, 7)) = W ∧
    (convert 24 24 (.slice (some ⟨w.heap.size, 0, none⟩) 6 6)).run Tryd.prog (w.alloc (.cells #[.int .u8 111, .int .u8 112, .int .u8 115, .int .u8 58, .int .u8 49, .int .u8 48] 5)) = .ok (.slice (some ⟨w.heap.size, 0, none⟩) 6 6) W ∧
    kb.byte.C W (some ⟨w.heap.size, 0, none⟩) 6 [111, 112, 115, 58, 49, 48] ∧ Below w.heap.size w W :=
  ⟨_, rfl, Lib.run_convert_bytes_const w 24 5 #[.int .u8 111, .int .u8 112, .int .u8 115, .int .u8 58, .int .u8 49, .int .u8 48] 6 6 Tryd.underlying24 Tryd.underlying5, byte_mark w [111, 112, 115, 58, 49, 48] (6, 7) (by decide), below_alloc (Below.refl _ _) _⟩
theorem shown_print (A : Option Addr) (c : Nat) (w : World) (hr : kRow.C w A 2 [rOps, rWheel]) (hc : 2 ≤ c) : Calls Tryd.prog 9 #[.string tG, .slice A 2 c] w fun e w' => ∃ B cc, e = .returned (.tuple #[.slice B 15 cc, .int .i64 0]) ∧ kb.byte.C w' B 15 [111, 112, 115, 58, 49, 48, 10, 119, 104, 101, 101, 108, 58, 48, 10] ∧ Below w.heap.size w w' := by
  refine (print_any tG [rOps, rWheel] A c w (by intro r hr'; simp at hr'; rcases hr' with rfl | rfl <;> exact ⟨by decide, by decide⟩) hr hc).mono ?_
  rintro e w' ⟨B, cc, rfl, _, hB, hb⟩
  rw [print_shown] at hB ⊢
  exact ⟨B, cc, rfl, hB, hb⟩
theorem shown_parse1 (A : Option Addr) (c : Nat) (w : World) (m : Int) (hr : kb.byte.C w A 7 [111, 112, 115, 58, 49, 48, 10]) (hm : w.cell? ⟨1, 0, none⟩ = some (.int .i64 m)) : Calls Tryd.prog 32 #[.string tG, .slice A 7 c] w fun e w' => ∃ ad cc A1 c1, e = .returned (.tuple #[.slice (some ad) 1 cc, .int .i64 0]) ∧ w'.cell? ad = some (.string rOps.f0) ∧ w'.cell? ⟨ad.block, ad.off + 1, none⟩ = some (.slice A1 1 c1) ∧ Below w.heap.size w w' := by
  refine (parse_any tG [111, 112, 115, 58, 49, 48, 10] A c w m _ lines1 (by decide) col1 hr (by decide) hm tG_width).mono ?_
  rintro e w' ⟨B, cc, rfl, _, hB, hb⟩
  rw [parse_shown1] at hB ⊢
  obtain ⟨ad, A1, c1, rfl, h0, h1, _, _⟩ := at_Row hB 0 (by decide)
  rw [Nat.zero_mul, show ad.add 0 = ad by simp [Addr.add]] at h0 h1
  exact ⟨ad, cc, A1, c1, rfl, h0, h1, hb⟩
theorem shown_parse2 (A : Option Addr) (c : Nat) (w : World) (m : Int) (hr : kb.byte.C w A 6 [111, 112, 115, 58, 49, 48]) (hm : w.cell? ⟨1, 0, none⟩ = some (.int .i64 m)) : Calls Tryd.prog 32 #[.string tG, .slice A 6 c] w fun e w' => ∃ B cc, e = .returned (.tuple #[.slice B 0 cc, .int .i64 51]) ∧ Below w.heap.size w w' := by
  refine (parse_any tG [111, 112, 115, 58, 49, 48] A c w m _ lines2 (by decide) col2 hr (by decide) hm tG_width).mono ?_
  rintro e w' ⟨B, cc, rfl, _, _, hb⟩
  rw [parse_shown2]
  exact ⟨B, cc, rfl, hb⟩
theorem shown_parse3 (w : World) (m : Int) (hm : w.cell? ⟨1, 0, none⟩ = some (.int .i64 m)) : Calls Tryd.prog 32 #[.string tG, .slice none 0 0] w fun e w' => ∃ B cc, e = .returned (.tuple #[.slice B 0 cc, .int .i64 0]) ∧ Below w.heap.size w w' := by
  refine (parse_any tG [] none 0 w m [] rfl (by decide) (by simp) ⟨rfl, by simp, fun h => by simp at h⟩ (by decide) hm tG_width).mono ?_
  rintro e w' ⟨B, cc, rfl, _, _, hb⟩
  rw [parse_shown3]
  exact ⟨B, cc, rfl, hb⟩
theorem shown_check (w : World) : Calls Tryd.prog 33 #[.string ⟨#[109, 111, 117, 110, 116, 115]⟩, .agg #[.string ⟨#[97]⟩, .slice none 0 0]] w fun e w' => e = .returned (.int .i64 50) ∧ Below w.heap.size w w' := by
  refine (check_any ⟨#[109, 111, 117, 110, 116, 115]⟩ ⟨⟨#[97]⟩, []⟩ none 0 w ⟨by decide, by simp⟩ ⟨rfl, by simp, fun h => by simp at h⟩ (by decide)).mono ?_
  rintro e w' ⟨rfl, hb⟩
  exact ⟨by rw [check_shown], hb⟩

set_option maxRecDepth 100000 in
set_option maxHeartbeats 2000000 in
theorem shown_any (w : World) (m : Int) (hm : w.cell? ⟨1, 0, none⟩ = some (.int .i64 m)) :
    Calls Tryd.prog 8 #[] w fun e w' => e = .returned (.bool true) ∧ Below w.heap.size w w' := by
  go_enter Tryd.func8, Tryd.ntmps8
  have HR := shown_rows w
  obtain ⟨W0, hW0⟩ : ∃ W0, ((w.alloc (.cells #[.string ⟨#[49, 48]⟩] 9)).alloc (.cells #[.string ⟨#[48]⟩] 9)).alloc (.cells #[.string ⟨#[111, 112, 115]⟩, .slice (some ⟨w.heap.size, 0, none⟩) 1 1, .string ⟨#[119, 104, 101, 101, 108]⟩, .slice (some ⟨w.heap.size + 1, 0, none⟩) 1 1] 52) = W0 := ⟨_, rfl⟩
  have hB0 : Below w.heap.size w W0 := by rw [← hW0]; exact below_alloc (below_alloc (below_alloc (Below.refl _ _) _) _) _
  rw [hW0] at HR
  have HP := Lib.hid (shown_print _ 2 W0 HR (by decide))
  clear HR
  have hm' := Lib.hid hm
  clear hm
  go_wp2_with (go_at_call 9; refine HP.out.mono ?_; rintro e w1 ⟨B, cc, rfl, hB, hb⟩
               have hb1 := below_step hB0 hb
               obtain ⟨W2, q1, q2, q3, q4⟩ := lit1 w1
               have hb2 := below_step hb1 q4
               have HP2 := Lib.hid (shown_parse1 _ 7 W2 m q3 (pw_cell_below hb2 hm'.out)))
  refine HP2.out.mono ?_
  rintro e w3 ⟨ad, c3, A3, d3, rfl, z0, z1, hb3'⟩
  have hb3 := below_step hb2 hb3'
  obtain ⟨W4, p1, p2, p3, p4⟩ := lit2 w3
  have hb4 := below_step hb3 p4
  have HP3 := Lib.hid (shown_parse2 _ 6 W4 m p3 (pw_cell_below hb4 hm'.out))
  clear HP2 HP hW0 q1 q2 q3
  go_wp2_with fail
  refine HP3.out.mono ?_
  rintro e w5 ⟨B5, c5, rfl, hb5'⟩
  have hb5 := below_step hb4 hb5'
  have HP4 := Lib.hid (shown_parse3 w5 m (pw_cell_below hb5 hm'.out))
  clear HP3 p1 p2 p3
  go_wp2_with fail
  refine HP4.out.mono ?_
  rintro e w6 ⟨B6, c6, rfl, hb6'⟩
  have hb6 := below_step hb5 hb6'
  clear HP4
  have hb36 : Below w3.heap.size w3 w6 := (p4.trans (hb5'.mono p4.size)).trans (hb6'.mono (p4.trans (hb5'.mono p4.size)).size)
  have hb16 : Below w1.heap.size w1 w6 := (q4.trans (hb3'.mono q4.size)).trans (hb36.mono (q4.trans (hb3'.mono q4.size)).size)
  go_wp2_with (go_at_call 33; refine (shown_check w6).mono ?_; rintro e w7 ⟨rfl, hb7'⟩; have hb7 := below_step hb6 hb7'
               have k1 : (convert 24 9 (.slice B 15 cc)).run Tryd.prog w7 = .ok (.string ⟨#[111, 112, 115, 58, 49, 48, 10, 119, 104, 101, 101, 108, 58, 48, 10]⟩) w7 := kb.conv_string (c := cc) (Kd.C_below hB (hb16.trans (hb7'.mono hb16.size)))
               have k2 : w7.cell? ad = some (.string ⟨#[111, 112, 115]⟩) := pw_cell_below (hb36.trans (hb7'.mono hb36.size)) z0)
  go_ret
  exact ⟨rfl, hb7⟩
end Go.Proofs.YtmjmcmohicjfkaaDoor.tab
