import Derived.Test.YtmjmcmohicjfkaaDoorTabD
namespace Go.Proofs.YtmjmcmohicjfkaaDoor.tab
open Go.RowKit Go.Shelf Go.Proofs.YtmjmcmohicjfkaaDoorW.PrintWords

def rowEq (a b : Row) : Bool := decide (a.f0 = b.f0) && decide (a.f1 = b.f1)
theorem str_inj {a b : ByteArray} (h : a.toList = b.toList) : a = b := by
  rw [ByteArray.toList_eq, ByteArray.toList_eq] at h
  exact ByteArray.ext (Array.toList_inj.1 h)
def SameTo {α : Type} [Inhabited α] (xs ys : List α) (k : Nat) : Prop := ∀ j, j < k → xs[j]! = ys[j]!
theorem SameTo.succ {α : Type} [Inhabited α] {xs ys : List α} {k : Nat} (h : SameTo xs ys k) (hk : xs[k]! = ys[k]!) : SameTo xs ys (k + 1) := by
  intro j hj
  by_cases he : j = k
  · subst he; exact hk
  · exact h j (by omega)
theorem SameTo.all {α : Type} [Inhabited α] {xs ys : List α} (hl : xs.length = ys.length) (h : SameTo xs ys xs.length) : xs = ys := by
  apply List.ext_getElem hl
  intro i h1 h2
  have := h i h1
  rwa [getElem!_pos xs i h1, getElem!_pos ys i h2] at this
theorem str_at {w : World} {A : Option Addr} {xs : List ByteArray} (h : Kd.string.C w A xs.length xs) (k : Nat) (hk : k < xs.length) : ∃ ad, A = some ad ∧ w.cell? (ad.add k) = some (.string xs[k]!) := by
  obtain ⟨ad, e, hc⟩ := Kd.at_string h (k : Int) (by omega) (by omega)
  refine ⟨ad, e, ?_⟩
  rw [Int.toNat_natCast] at hc
  rw [hc]
  simp only [rdOf, List.getD_eq_getElem?_getD, Int.toNat_natCast]
  rw [List.getElem?_eq_getElem hk, getElem!_pos xs k hk]; rfl

set_option maxRecDepth 100000 in
set_option maxHeartbeats 2000000 in
theorem sameRow_any (a b : Row) (A B : Option Addr) (ca cb : Nat) (w : World) (hA : Kd.string.C w A a.f1.length a.f1) (hB : Kd.string.C w B b.f1.length b.f1) :
    Calls Tryd.prog 30 #[.agg #[.string a.f0, .slice A a.f1.length ca], .agg #[.string b.f0, .slice B b.f1.length cb]] w fun e w' => e = .returned (.bool (rowEq a b)) ∧ Below w.heap.size w w' := by
  have HA := Lib.hid hA
  have HB := Lib.hid hB
  have la : a.f1.length ≤ 9223372036854775807 := hA.2.1
  clear hA hB
  obtain ⟨W0, hW0⟩ : ∃ W0, (w.alloc (.cells #[.string a.f0, .slice A a.f1.length ca] 52)).alloc (.cells #[.string b.f0, .slice B b.f1.length cb] 52) = W0 := ⟨_, rfl⟩
  have hB0 : Below w.heap.size w W0 := by rw [← hW0]; exact below_alloc (below_alloc (Below.refl _ _) _) _
  have x0 : W0.heap[w.heap.size]? = some (.cells #[.string a.f0, .slice A a.f1.length ca] 52 (0, 0)) := by rw [← hW0]; exact blk_alloc (blk_new _ _) _
  have x1 : W0.heap[w.heap.size + 1]? = some (.cells #[.string b.f0, .slice B b.f1.length cb] 52 (0, 0)) := by
    rw [← hW0]; have := blk_new (w.alloc (.cells #[.string a.f0, .slice A a.f1.length ca] 52)) (.cells #[.string b.f0, .slice B b.f1.length cb] 52); rwa [World.size_alloc] at this
  have c00 : W0.cell? ⟨w.heap.size, 0, none⟩ = some (.string a.f0) := (blk_cell x0 0).trans rfl
  have c01 : W0.cell? ⟨w.heap.size, 1, none⟩ = some (.slice A a.f1.length ca) := (blk_cell x0 1).trans rfl
  have c10 : W0.cell? ⟨w.heap.size + 1, 0, none⟩ = some (.string b.f0) := (blk_cell x1 0).trans rfl
  have c11 : W0.cell? ⟨w.heap.size + 1, 1, none⟩ = some (.slice B b.f1.length cb) := (blk_cell x1 1).trans rfl
  have hno : ¬ (a.f0 = b.f0 ∧ a.f1 = b.f1) → rowEq a b = false := by intro h; unfold rowEq; simpa using fun e e2 => h ⟨e, e2⟩
  by_cases hk : a.f0.toList = b.f0.toList
  · by_cases hl : a.f1.length = b.f1.length
    · have HL := Lib.hid hl
      have hl1 : ((a.f1.length : Int) == (b.f1.length : Int)) = true := by rw [beq_iff_eq]; omega
      clear hl
      go_enter Tryd.func30, Tryd.ntmps30
      go_wp2
      go_loopw [5] (fun i wr => ∃ k : Nat, k ≤ a.f1.length ∧ i = .int .i64 k ∧ SameTo a.f1 b.f1 k ∧ Below W0.heap.size W0 wr) (fun i _ => a.f1.length - (intOf i).toNat)
      case atStart => exact ⟨0, Nat.zero_le _, rfl, fun j hj => by omega, Below.refl _ _⟩
      case round =>
        obtain ⟨k, hk2, rfl, hs, hb⟩ := hrel
        have hbw := below_step hB0 hb
        have y0 : wr.cell? ⟨w.heap.size, 1, none⟩ = some (.slice A a.f1.length ca) := pw_cell_below hb c01
        by_cases hlt : k < a.f1.length
        · have hd : decide ((k : Int) < (a.f1.length : Int)) = true := decide_eq_true (by omega)
          obtain ⟨ad, rfl, zA⟩ := str_at (Kd.C_below HA.out hbw) k hlt
          obtain ⟨bd, rfl, zB⟩ := str_at (Kd.C_below HB.out hbw) k (by have := HL.out; omega)
          have hlb : k < b.f1.length := by have := HL.out; omega
          have hrest : a.f1[k]! = b.f1[k]! ∨ a.f1[k]! ≠ b.f1[k]! := Classical.em _
          generalize hx : a.f1[k]! = x at *
          generalize hy : b.f1[k]! = y at *
          go_wp2
          refine reg.region_seq (S := Below wr.heap.size wr) (by kernel_rfl) (by kernel_rfl) (below_drew (Below.refl _ _)) ?_
          iterate 11
            apply reg.seq_cons
            case h =>
              intro W hS
              have q0 := pw_cell_below hS y0
              have q1 := pw_cell_below hS (pw_cell_below hb c11)
              have q2 := pw_cell_below hS zA
              have q3 := pw_cell_below hS zB
              have HS := Lib.hid hS
              clear hS
              go_wp2
              exact ⟨rfl, rfl, HS.out⟩
            try simp only [Act.put, List.setIfInBounds_toArray, List.set_cons_zero, List.set_cons_succ]
          intro W hS
          have hS2 := Lib.hid (hb.trans (hS.mono hb.size))
          clear hS
          go_wp2
          · rename_i hq
            have hxy : x.toList ≠ y.toList := by simpa using hq
            go_ret
            exact ⟨by rw [hno (fun h => hxy (by rw [← hx, ← hy, h.2]))]; rfl, below_step hB0 hS2.out⟩
          · rename_i hq
            have hxy : x.toList = y.toList := by simpa using hq
            go_roundw
            case rel => exact ⟨k + 1, by omega, by go_num, hs.succ (by rw [hx, hy]; exact str_inj hxy), hS2.out⟩
            case measure => simp [intOf]; omega
        · obtain rfl : k = a.f1.length := by omega
          have hd : decide ((a.f1.length : Int) < (a.f1.length : Int)) = false := decide_eq_false (by omega)
          go_wp2
          go_ret
          have e1 := str_inj hk
          have e2 := hs.all HL.out
          exact ⟨by unfold rowEq; rw [e1, e2]; simp, hbw⟩
    · have hl1 : ((a.f1.length : Int) == (b.f1.length : Int)) = false := by rw [beq_eq_false_iff_ne]; omega
      go_enter Tryd.func30, Tryd.ntmps30
      go_wp2
      go_ret
      exact ⟨by rw [hno (fun h => hl (by rw [h.2]))]; rfl, hB0⟩
  · go_enter Tryd.func30, Tryd.ntmps30
    go_wp2
    go_ret
    exact ⟨by rw [hno (fun h => hk (by rw [h.1]))]; rfl, hB0⟩

theorem rowEq_iff (a b : Row) : rowEq a b = true ↔ a = b := by
  unfold rowEq
  rw [Bool.and_eq_true, decide_eq_true_eq, decide_eq_true_eq]
  constructor
  · rintro ⟨h, k⟩; cases a; cases b; simp_all
  · rintro rfl; exact ⟨rfl, rfl⟩
instance : DecidableEq Row := fun a b => decidable_of_iff _ (rowEq_iff a b)
def sameRows (l m : List Row) : Bool := decide (l = m)

set_option maxRecDepth 100000 in
set_option maxHeartbeats 2000000 in
theorem same_any (l m : List Row) (A B : Option Addr) (ca cb : Nat) (w : World) (hA : kRow.C w A l.length l) (hB : kRow.C w B m.length m) :
    Calls Tryd.prog 10 #[.slice A l.length ca, .slice B m.length cb] w fun e w' => e = .returned (.bool (sameRows l m)) ∧ Below w.heap.size w w' := by
  have HA := Lib.hid hA
  have HB := Lib.hid hB
  have la : l.length ≤ 9223372036854775807 := hA.2.1
  clear hA hB
  have hno : l ≠ m → sameRows l m = false := fun h => decide_eq_false h
  by_cases hl : l.length = m.length
  · have HL := Lib.hid hl
    have hl1 : ((l.length : Int) == (m.length : Int)) = true := by rw [beq_iff_eq]; omega
    have hl2 : ((l.length : Int) != (m.length : Int)) = false := by rw [bne, hl1]; rfl
    clear hl
    go_enter Tryd.func10, Tryd.ntmps10
    go_wp2
    go_loopw [5] (fun i wr => ∃ k : Nat, k ≤ l.length ∧ i = .int .i64 k ∧ SameTo l m k ∧ Below w.heap.size w wr) (fun i _ => l.length - (intOf i).toNat)
    case atStart => exact ⟨0, Nat.zero_le _, rfl, fun j hj => by omega, Below.refl _ _⟩
    case round =>
      obtain ⟨k, hk2, rfl, hs, hb⟩ := hrel
      by_cases hlt : k < l.length
      · have hd : decide ((k : Int) < (l.length : Int)) = true := decide_eq_true (by omega)
        have hlm : k < m.length := by have := HL.out; omega
        obtain ⟨ad, A1, c1, rfl, r0, r1, _, hC1⟩ := at_Row (Kd.C_below HA.out hb) k hlt
        obtain ⟨bd, B1, d1, rfl, s0, s1, _, hC2⟩ := at_Row (Kd.C_below HB.out hb) k hlm
        generalize hx : l[k]! = x at *
        generalize hy : m[k]! = y at *
        have HC1 := Lib.hid hC1
        have HC2 := Lib.hid hC2
        clear hC1 hC2
        go_wp2
        refine reg.region_seq (S := Below wr.heap.size wr) (by kernel_rfl) (by kernel_rfl) (below_drew (Below.refl _ _)) ?_
        iterate 10
          apply reg.seq_cons
          case h =>
            intro W hS
            have q0 := pw_cell_below hS r0
            have q1 := pw_cell_below hS r1
            have q2 := pw_cell_below hS s0
            have q3 := pw_cell_below hS s1
            have HS := Lib.hid hS
            clear hS
            go_wp2_with (go_at_call 30; refine (sameRow_any x y A1 B1 c1 d1 W (Kd.C_below HC1.out HS.out) (Kd.C_below HC2.out HS.out)).mono ?_; rintro e w' ⟨rfl, hb'⟩; replace HS := Lib.hid (below_step HS.out hb'))
            exact ⟨rfl, rfl, HS.out⟩
          try simp only [Act.put, List.setIfInBounds_toArray, List.set_cons_zero, List.set_cons_succ]
        intro W hS
        have hS2 := Lib.hid (hb.trans (hS.mono hb.size))
        clear hS
        go_wp2
        · rename_i hq
          have hxy : x ≠ y := fun e => by rw [(rowEq_iff x y).2 e] at hq; simp at hq
          go_ret
          exact ⟨by rw [hno (fun h => hxy (by rw [← hx, ← hy, h]))]; rfl, hS2.out⟩
        · rename_i hq
          have hxy : x = y := (rowEq_iff x y).1 (by simpa using hq)
          go_roundw
          case rel => exact ⟨k + 1, by omega, by go_num, hs.succ (by rw [hx, hy]; exact hxy), hS2.out⟩
          case measure => simp [intOf]; omega
      · obtain rfl : k = l.length := by omega
        have hd : decide ((l.length : Int) < (l.length : Int)) = false := decide_eq_false (by omega)
        go_wp2
        go_ret
        exact ⟨by rw [show sameRows l m = true from decide_eq_true (hs.all HL.out)]; rfl, hb⟩
  · have hl1 : ((l.length : Int) == (m.length : Int)) = false := by rw [beq_eq_false_iff_ne]; omega
    have hl2 : ((l.length : Int) != (m.length : Int)) = true := by rw [bne, hl1]; rfl
    go_enter Tryd.func10, Tryd.ntmps10
    go_wp2
    go_ret
    exact ⟨by rw [hno (fun h => hl (by rw [h]))]; rfl, Below.refl _ _⟩
end Go.Proofs.YtmjmcmohicjfkaaDoor.tab
