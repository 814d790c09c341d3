import Derived.Test.YtmjmcmohicjfkaaDoorTabS
import Derived.Test.YtmjmcmohicjfkaaDoorTabT
import Derived.Test.YtmjmcmohicjfkaaDoorTabU
import Derived.Test.YtmjmcmohicjfkaaDoorTabI
/-
  TablesRows: plain facts; what is written over.
-/
namespace Go.Proofs.YtmjmcmohicjfkaaDoor.tab
open Go.RowKit Go.Shelf Go.Proofs.YtmjmcmohicjfkaaDoorW.PrintWords

theorem getP_drop (l : List Row) (key : ByteArray) : getP (dropP l key) key = none := by
  unfold getP dropP
  refine List.find?_eq_none.2 (fun x hx => ?_)
  have := (List.mem_filter.1 hx).2
  simpa using this
theorem getP_set (l : List Row) (r : Row) : getP (setP l r) r.f0 = some r := by
  have h0 : ∀ m : List Row, (∀ x ∈ m, x ∈ dropP l r.f0) → m.find? (fun x => x.f0.toList == r.f0.toList) = none := fun m hm =>
    List.find?_eq_none.2 (fun x hx => by have := List.find?_eq_none.1 (getP_drop l r.f0) x (hm x hx); exact this)
  unfold getP setP
  rw [List.append_assoc, List.find?_append, h0 _ (fun x hx => List.mem_of_mem_take hx)]
  simp
theorem set_len (l : List Row) (r : Row) : (setP l r).length ≤ l.length + 1 := by
  have h : (dropP l r.f0).length ≤ l.length := List.length_filter_le _ _
  have := insAt_le (dropP l r.f0) r.f0
  unfold setP
  simp only [List.length_append, List.length_take, List.length_drop, List.length_cons, List.length_nil]
  omega
theorem set_in {l : List Row} {r x : Row} (h : x ∈ setP l r) : x = r ∨ x ∈ l := by
  unfold setP at h
  have hd : ∀ y, y ∈ dropP l r.f0 → y ∈ l := fun y hy => (List.mem_filter.1 hy).1
  simp only [List.mem_append, List.mem_cons, List.not_mem_nil, or_false] at h
  rcases h with (h | h) | h
  · exact .inr (hd _ (List.mem_of_mem_take h))
  · exact .inl h
  · exact .inr (hd _ (List.mem_of_mem_drop h))
theorem fit_set {l : List Row} {r : Row} (hf : FitRows l) (hl : l.length ≤ 1099511627775) (hr : r.f1.length ≤ 8796093022207) : FitRows (setP l r) :=
  ⟨fun x hx => (set_in hx).elim (fun e => e ▸ hr) (fun h => hf.1 x h), by have := set_len l r; omega⟩
theorem fit_drop {l : List Row} {key : ByteArray} (hf : FitRows l) : FitRows (dropP l key) :=
  ⟨fun x hx => hf.1 x (List.mem_filter.1 hx).1, Nat.le_trans (List.length_filter_le _ _) hf.2⟩

section
variable {S S' ok : Nat → Prop} {W W1 w : World} {A : Option Addr} {n c base b B : Nat} {v : Value} {xs : List Row} {ys : List ByteArray}
theorem cellsOk_of (h : Kd.string.R 9 W b S v ys) : CellsOk S W v := by
  obtain ⟨inner, ho⟩ := Kd.R_own h
  rcases ho.2 with ⟨e, _⟩ | ⟨g, cap, cur, e, _, hh, hnc, hm, hcs, _⟩
  · exact ⟨none, 0, 0, e, by omega, .inl rfl⟩
  · have hml : maxLen = 9223372036854775807 := by decide
    have hsz : cur.size = cap := hcs.trans (Nat.mul_one cap)
    refine ⟨_, _, cap, e, by omega, .inr ⟨g, cur, rfl, h.1 g (by rw [e]; simp [Value.ownBlock]), hh, by omega⟩⟩
theorem pl_of (h : Kd.N (kOwn S) 52 W base ok v xs) : (v = .slice none 0 0 ∨ ∃ g cap, v = .slice (some ⟨g, 0, none⟩) xs.length cap ∧ ok g ∧ Pl S W g xs.length) ∧ xs.length ≤ 9223372036854775807 := by
  by_cases hp : 0 < xs.length
  · obtain ⟨g, cap, rfl, _, _, cells, hg⟩ := Kd.N_form h hp
    refine ⟨.inr ⟨g, cap, rfl, h.1 g (by simp [Value.ownBlock]), cells, hg, fun j hj => ?_⟩, (Kd.N_reads' h).2.2.2.1⟩
    obtain ⟨cs, _, hFK, hcc, _⟩ := Kd.N_elem h (default : Row) (j : Int) (by omega) (by omega)
    obtain ⟨u, rfl, hR⟩ := Kd.FK_now hFK
    rw [Int.toNat_natCast] at hcc
    have h0 := hcc 0 _ rfl
    have h1 := hcc 1 _ rfl
    rw [blk_cell hg] at h0 h1
    exact ⟨_, u, h0, h1, cellsOk_of hR⟩
  · have h0 : xs.length = 0 := by omega
    obtain ⟨_, rows, hl, hR, _⟩ := h
    obtain ⟨inner, ho⟩ := Kd.R_own hR
    rcases ho.2 with ⟨e, _⟩ | ⟨g, cap, cur, e, _, hh, hnc, hm, hcs, _⟩
    · exact ⟨.inl e, by omega⟩
    · refine ⟨.inr ⟨g, cap, by rw [← hl]; exact e, ‹∀ k, v.ownBlock = some k → ok k› g (by rw [e]; simp [Value.ownBlock]), cur, hh, fun j hj => by omega⟩, by omega⟩
theorem Sp.mono (h : Sp S w W) (hS : ∀ k, S k → S' k) : Sp S' w W := ⟨h.os, h.tape, h.output, h.size, fun k hk => h.block k (fun hs => hk (hS k hs))⟩
theorem Sp.after (h : Sp S W W1) (hb : Below B w W) (hS : ∀ k, S k → B ≤ k) : Below B w W1 := hb.trans (h.below hS)
end

set_option maxRecDepth 100000 in
set_option maxHeartbeats 1000000 in
theorem spoil_nil (w : World) : Calls Tryd.prog 31 #[.slice none 0 0] w fun e w' => e = .returned (.tuple #[]) ∧ w' = w := by
  go_enter Tryd.func31, Tryd.ntmps31
  go_wp2
  refine wp_loop_rounds 1 ?_
  rw [rounds_succ]
  go_wp2
  go_end0
  exact ⟨rfl, rfl⟩
theorem spoil_any (S ok : Nat → Prop) (base : Nat) (v : Value) (xs : List Row) (w : World) (h : Kd.N (kOwn S) 52 w base ok v xs) (hS : ∀ k, ok k → S k) :
    Calls Tryd.prog 31 #[v] w fun e w' => e = .returned (.tuple #[]) ∧ Sp S w w' := by
  obtain ⟨h1, hl⟩ := pl_of h
  rcases h1 with rfl | ⟨g, cap, rfl, hg, hP⟩
  · exact (spoil_nil w).mono fun e w' ⟨he, hw⟩ => ⟨he, hw ▸ Sp.refl _ _⟩
  · exact spoil_some S g _ cap w hP (hS g hg) hl
end Go.Proofs.YtmjmcmohicjfkaaDoor.tab
