import Derived.Test.YtmjmcmohicjfkaaDoorTabP
/-
  The reference's Drop: rows that share their cells.
-/
namespace Go.Proofs.YtmjmcmohicjfkaaDoor.tab
open Go.RowKit Go.Shelf Go.Proofs.YtmjmcmohicjfkaaDoorW.PrintWords

theorem heap_kRow : Kd.Heap kRow := Kd.heap_iso _ (Kd.heap_pair Kd.heap_string (Kd.heap_slice _ Kd.heap_string))
/-- Element k of rows that lie in w. -/
theorem at_FK {w wr : World} {A : Option Addr} {l : List Row} (h : kRow.C w A l.length l) (hb : Below w.heap.size w wr) (k : Nat) (hk : k < l.length) : ∃ ad A1 c1, A = some ad ∧ wr.cell? (ad.add (k * 2)) = some (.string (l[k]!).f0) ∧
    wr.cell? ⟨(ad.add (k * 2)).block, (ad.add (k * 2)).off + 1, none⟩ = some (.slice A1 (l[k]!).f1.length c1) ∧ Kd.FK kRow wr (fun k => k < w.heap.size) l[k]! [.string (l[k]!).f0, .slice A1 (l[k]!).f1.length c1] := by
  obtain ⟨ad, c, e, _, hFK, hc, _⟩ := Kd.F_get (Kd.F_below (Kd.C_F heap_kRow h) hb) (default : Row) (k : Int) (by omega) (by omega)
  have hx : l.getD (k : Int).toNat default = l[k]! := by simp [List.getD_eq_getElem?_getD]
  rw [hx] at hFK
  obtain ⟨A1, c1, rfl, l1, g1⟩ := kRow_open (Kd.FK_now hFK)
  rw [Int.toNat_natCast] at hc
  exact ⟨ad, A1, c1, e, hc 0 _ rfl, by rw [← add_field _ _ 1 (by omega)]; exact hc 1 _ rfl, hFK⟩

set_option maxRecDepth 100000 in
set_option maxHeartbeats 2000000 in
theorem refDrop_any (l : List Row) (key : ByteArray) (A : Option Addr) (c : Nat) (w : World) (hr : kRow.C w A l.length l) (hf : l.length ≤ 1099511627776) :
    Calls Tryd.prog 29 #[.slice A l.length c, .string key] w fun e w' => ∃ v, e = .returned v ∧ Kd.N kRow 52 w' w.heap.size (fun _ => True) v (dropP l key) ∧ Below w.heap.size w w' := by
  have HR := Lib.hid hr
  have la : l.length ≤ 9223372036854775807 := hr.2.1
  clear hr
  go_enter Tryd.func29, Tryd.ntmps29
  go_wp2
  go_loopw [5, 6] (fun v i wr => ∃ k : Nat, k ≤ l.length ∧ i = .int .i64 k ∧ Kd.N kRow 52 wr w.heap.size (fun _ => True) v (dropP (l.take k) key) ∧ Below w.heap.size w wr) (fun _ i _ => l.length - (intOf i).toNat)
  case atStart => exact ⟨0, Nat.zero_le _, rfl, Kd.N_nil _ _ _ _ _, Below.refl _ _⟩
  case round =>
    obtain ⟨k, hk, rfl, hN, hb⟩ := hrel
    by_cases hlt : k < l.length
    · have hd : decide ((k : Int) < (l.length : Int)) = true := decide_eq_true (by omega)
      have hx : l[k]! = l[k] := getElem!_pos l k hlt
      obtain ⟨ad, A1, c1, rfl, r0, r1, hFK⟩ := at_FK HR.out hb k hlt
      rw [hx] at r0 r1 hFK
      have htk : l.take (k + 1) = l.take k ++ [l[k]] := List.take_succ_eq_append_getElem hlt
      have hlen : (dropP (l.take k) key).length ≤ k := by
        unfold dropP
        refine Nat.le_trans (List.length_filter_le _ _) ?_
        simp; omega
      have HTK := Lib.hid (show dropP (l.take (k + 1)) key = dropP (l.take k) key ++ (if (!(l[k].f0.toList == key.toList)) = true then [l[k]] else []) by
        rw [htk]; unfold dropP; rw [List.filter_append]; simp [List.filter_cons])
      clear hx htk
      generalize l[k] = r at *
      obtain ⟨A2, c2, rfl⟩ := Kd.N_slice hN
      have hold : ∀ j, (Value.slice A2 (dropP (l.take k) key).length c2).ownBlock = some j → w.heap.size ≤ j := fun j hj => Kd.N_base hN j hj
      have HN := Lib.hid hN
      have HFK := Lib.hid hFK
      clear hN hFK
      generalize hpre : dropP (l.take k) key = pre at *
      generalize hn2 : pre.length = n2 at *
      go_wp2_with (at_builtin; refine Kd.N_append kRow w.heap.size rfl (.tmp 20) (.tmp 25) 22 52 (.agg #[.string ⟨#[]⟩, .slice none 0 0]) 40 rfl Tryd.underlying22 (by kernel_rfl) rfl (by decide) (by decide) (.slice A2 n2 c2) pre r [.string r.f0, .slice A1 r.f1.length c1]
                      (fun _ => True) (fun k => k < w.heap.size) rfl rfl HFK.out (fun k hk => ⟨trivial, fun e => by have := hold k e.symm; omega⟩) (fun k hk => trivial)
                      HN.out (w0 := w) hb hb.size (by omega) ?_
                   intro v1 w7 hN7 hB7 hg7 hat
                   obtain ⟨A7, c7, rfl⟩ := Kd.N_slice hN7
                   generalize hl7 : (pre ++ [r]).length = n7 at *)
      · rename_i hq
        have e := HTK.out
        rw [if_pos hq] at e
        go_roundw
        case rel => exact ⟨k + 1, by omega, by go_num, by rw [e]; exact hN7, hB7⟩
        case measure => simp [intOf]; omega
      · rename_i hq
        have e := HTK.out
        rw [if_neg (by rw [hq]; simp), List.append_nil] at e
        go_roundw
        case rel => exact ⟨k + 1, by omega, by go_num, by rw [e]; exact HN.out, hb⟩
        case measure => simp [intOf]; omega
    · obtain rfl : k = l.length := by omega
      have hd : decide ((l.length : Int) < (l.length : Int)) = false := decide_eq_false (by omega)
      rw [List.take_length] at hN
      obtain ⟨A2, c2, rfl⟩ := Kd.N_slice hN
      have HN := Lib.hid hN
      clear hN
      go_wp2
      go_ret
      exact ⟨_, rfl, HN.out, hb⟩
end Go.Proofs.YtmjmcmohicjfkaaDoor.tab
