import Derived.Test.YtmjmcmohicjfkaaDoorTabK
import Derived.Test.YtmjmcmohicjfkaaDoorCp
import Derived.Test.YtmjmcmohicjfkaaDoorRegC
/-
  slices.Insert of one row into a row of rows of one's own.
-/
namespace Go.Proofs.YtmjmcmohicjfkaaDoor.tab
open Go.RowKit Go.Shelf Go.Proofs.YtmjmcmohicjfkaaDoorW.PrintWords

abbrev RawR : List Value → List Value → Prop := fun x cs => cs = x ∧ cs.length = 2 ∧ ∀ u ∈ cs, u.oneCell' = true
theorem N_inserted {S : Nat → Prop} {W w1 : World} {base lo i : Nat} {v v1 : Value} {l : List Row} {r : Row} {rows : List (List Value)} {inner nc : List Value} (hl : rows.length = l.length) (hi : i ≤ l.length) (hreps : Reps RawR 2 rows inner)
    (hf : ∀ (j : Nat) (x : Row) (c : List Value), l[j]? = some x → rows[j]? = some c → Kd.FK (kOwn S) W (fun k => base ≤ k ∧ some k ≠ v.ownBlock) x c)
    (hnc : nc.length = 2) (hn1 : ∀ u ∈ nc, u.oneCell' = true) (hr : Kd.FK (kOwn S) W (fun k => lo ≤ k) r nc) (hlo : ∀ k, v.ownBlock = some k → k < lo) (hbl : base ≤ lo)
    (hown : w1.ownsRow base 52 2 v1 (l.length + 1) (inner.take (i * 2) ++ nc ++ inner.drop (i * 2))) (hg : W.grownBy w1 v.ownBlock) (hat : v1.ownBlock = v.ownBlock ∨ ∃ b, v1.ownBlock = some b ∧ W.heap.size ≤ b) :
    Kd.N (kOwn S) 52 w1 base (fun k => base ≤ k) v1 (l.take i ++ [r] ++ l.drop i) := by
  have hne : ∀ k, k < W.heap.size → some k ≠ v.ownBlock → some k ≠ v1.ownBlock := by
    intro k hk hv
    rcases hat with h | ⟨b, h, hb⟩
    · rw [h]; exact hv
    · rw [h]; intro e; injection e with e; omega
  have lift : ∀ {x : Row} {c : List Value} {ok : Nat → Prop}, Kd.FK (kOwn S) W ok x c → (∀ k, ok k → base ≤ k ∧ some k ≠ v.ownBlock) → Kd.FK (kOwn S) w1 (fun k => base ≤ k ∧ some k ≠ v1.ownBlock) x c := by
    intro x c ok h hok
    exact Kd.FK_mono (Kd.FK_step (Kd.FK_bound h) (fun k hk hlt => hg.block k hlt (hok k hk.1).2)) (fun k hk => ⟨(hok k hk.1).1, hne k hk.2 (hok k hk.1).2⟩)
  have hir : i ≤ rows.length := by omega
  refine ⟨fun k hk => own_base hown k hk, rows.take i ++ [nc] ++ rows.drop i, by simp; omega, ⟨fun k hk => hk.symm, inner.take (i * 2) ++ nc ++ inner.drop (i * 2), ?_, ?_⟩, fun j x c hx hc => ?_⟩
  · have e : (rows.take i ++ [nc] ++ rows.drop i).length = l.length + 1 := by simp; omega
    rw [e]; exact hown
  · exact Kd.reps_append (Reps.snoc (Kd.reps_take hreps hir) (show RawR nc nc from ⟨rfl, hnc, hn1⟩) hnc) (Kd.reps_drop hreps)
  · rw [List.append_assoc] at hx hc
    by_cases h1 : j < i
    · rw [List.getElem?_append_left (by simp; omega), List.getElem?_take_of_lt h1] at hx
      rw [List.getElem?_append_left (by simp; omega), List.getElem?_take_of_lt h1] at hc
      exact lift (hf j x c hx hc) (fun k hk => hk)
    · rw [List.getElem?_append_right (by simp; omega)] at hx hc
      rw [List.length_take, Nat.min_eq_left hi] at hx
      rw [List.length_take, Nat.min_eq_left hir] at hc
      by_cases h2 : j = i
      · subst h2
        simp at hx hc
        subst hx; subst hc
        exact lift hr (fun k hk => ⟨by omega, fun e => by have := hlo k e.symm; omega⟩)
      · obtain ⟨m, hm⟩ : ∃ m, j - i = m + 1 := ⟨j - i - 1, by omega⟩
        rw [hm] at hx hc
        simp only [List.singleton_append, List.getElem?_cons_succ, List.getElem?_drop] at hx hc
        exact lift (hf _ x c hx hc) (fun k hk => hk)

/-- What Insert promises. -/
def InsPost (S : Nat → Prop) (base : Nat) (v : Value) (l : List Row) (i : Nat) (r : Row) (w : World) (e : Ending) (w' : World) : Prop := ∃ v1, e = .returned v1 ∧ Kd.N (kOwn S) 52 w' base (fun k => base ≤ k) v1 (l.take i ++ [r] ++ l.drop i) ∧ w.grownBy w' v.ownBlock

set_option maxRecDepth 100000 in
set_option maxHeartbeats 2000000 in
/-- .. at the end. -/
theorem insert_end (S : Nat → Prop) (base lo vb : Nat) (A : Option Addr) (cap : Nat) (l : List Row) (r : Row) (w : World) (hN : Kd.N (kOwn S) 52 w base (fun k => base ≤ k) (.slice A l.length cap) l) (hl : l.length ≤ 1099511627776)
    (hF : Kd.F (kOwn S) w (fun k => lo ≤ k) (some ⟨vb, 0, none⟩) 1 [r]) (hlo : ∀ k, (Value.slice A l.length cap).ownBlock = some k → k < lo) (hbl : base ≤ lo) (hlw : lo ≤ w.heap.size) :
    Calls Tryd.prog 61 #[.slice A l.length cap, .int .i64 l.length, .slice (some ⟨vb, 0, none⟩) 1 1] w (InsPost S base (.slice A l.length cap) l l.length r w) := by
  have HN := Lib.hid hN
  have HF := Lib.hid hF
  have hcap := (Kd.N_reads' hN).2.1
  have hmaxN : cap ≤ 9223372036854775807 := by
    obtain ⟨_, rows, _, hR, _⟩ := hN
    obtain ⟨inner, ho⟩ := Kd.R_own hR
    rcases ho.2 with ⟨e, _⟩ | ⟨g, cap', cur, e, _, _, _, hm, _⟩
    · injection e with _ _ e3
      omega
    · injection e with _ _ e3
      rw [e3]; exact hm
  clear hN hF
  go_enter Tryd.func61, Tryd.ntmps61
  go_wp2_with (at_builtin; refine Kd.N_append_rows (kOwn S) base rfl (.tmp 23) (.tmp 24) 22 52 (.agg #[.string ⟨#[]⟩, .slice none 0 0]) 40 rfl Tryd.underlying22 row_info rfl (show 0 < 2 by decide) (by decide) (.slice A l.length cap) l [r] (some ⟨vb, 0, none⟩) 1 1 (fun k => base ≤ k) (fun k => lo ≤ k) rfl rfl HN.out HF.out (fun k hk => ⟨by omega, fun e => by have := hlo k e.symm; omega⟩) (fun k hk => by omega) (w0 := w) (Below.refl _ _) (by omega) (by omega) ?_
               intro v1 w7 hN7 hB7 hg7 hat
               obtain ⟨A7, c7, rfl⟩ := Kd.N_slice hN7
               generalize hl7 : (l ++ [r]).length = n7 at *)
  · go_ret
    exact ⟨_, rfl, by simpa using hN7, by rename_i h; rw [h] at hg7; exact hg7⟩
  · go_ret
    exact ⟨_, rfl, by simpa using hN7, hg7⟩

/-- What stood from i on, one place further on; then nc at i. -/
def over2 (cur : List Value) (i n : Nat) (nc : List Value) : List Value := cp.over (cp.over cur ((i + 1) * 2) ((cur.take (n * 2)).drop (i * 2))) (i * 2) nc
/-- What an own row that is not nil is. -/
theorem N_open {S : Nat → Prop} {w : World} {base : Nat} {A : Option Addr} {cap : Nat} {l : List Row} (hN : Kd.N (kOwn S) 52 w base (fun k => base ≤ k) (.slice A l.length cap) l) (hp : 0 < l.length) :
    ∃ g cur rows, A = some ⟨g, 0, none⟩ ∧ base ≤ g ∧ w.heap[g]? = some (.cells cur 52 (0, 0)) ∧ l.length ≤ cap ∧ cap ≤ 9223372036854775807 ∧ cur.size = cap * 2 ∧ rows.length = l.length ∧ Reps RawR 2 rows (cur.toList.take (l.length * 2)) ∧
      ∀ (j : Nat) (x : Row) (c : List Value), l[j]? = some x → rows[j]? = some c → Kd.FK (kOwn S) w (fun k => base ≤ k ∧ some k ≠ (Value.slice A l.length cap).ownBlock) x c := by
  obtain ⟨_, rows, hlr, ⟨_, inner, ho, hreps⟩, hf⟩ := hN
  rcases ho.2 with ⟨e, _⟩ | ⟨g, cap', cur, e, hb, hh, hnc, hm, hcs, ht⟩
  · injection e with _ e2 _
    omega
  · injection e with e1 e2 e3
    subst e1; subst e3
    refine ⟨g, cur, rows, rfl, hb, hh, by omega, hm, hcs, hlr, ?_, hf⟩
    have ht' : cur.toList.take (l.length * 2) = inner := by rw [← hlr]; exact ht
    rw [ht']; exact hreps
theorem over_take {cur nc : List Value} {i n : Nat} (hn : nc.length = 2) (hi : i ≤ n) (hc : (n + 1) * 2 ≤ cur.length) :
    (over2 cur i n nc).take ((n + 1) * 2) = (cur.take (n * 2)).take (i * 2) ++ nc ++ (cur.take (n * 2)).drop (i * 2) ∧ (over2 cur i n nc).length = cur.length := by
  have h1 : ((cur.take (n * 2)).drop (i * 2)).length = (n - i) * 2 := by simp; omega
  have h2 : (cp.over cur ((i + 1) * 2) ((cur.take (n * 2)).drop (i * 2))).length = cur.length := cp.over_length (by rw [h1]; omega)
  have h3 : (over2 cur i n nc).length = cur.length := by unfold over2; rw [cp.over_length (by rw [hn, h2]; omega), h2]
  refine ⟨?_, h3⟩
  have e : over2 cur i n nc = (cur.take (n * 2)).take (i * 2) ++ nc ++ (cur.take (n * 2)).drop (i * 2) ++ cur.drop ((n + 1) * 2) := by
    unfold over2 cp.over
    rw [hn, h1]
    have e1 : (i + 1) * 2 + (n - i) * 2 = (n + 1) * 2 := by omega
    rw [e1]
    have e2 : (cur.take ((i + 1) * 2) ++ (cur.take (n * 2)).drop (i * 2) ++ cur.drop ((n + 1) * 2)).take (i * 2) = (cur.take (n * 2)).take (i * 2) := by
      rw [List.append_assoc, List.take_append_of_le_length (by simp; omega), List.take_take, List.take_take]
      congr 1; omega
    have e3 : (cur.take ((i + 1) * 2) ++ (cur.take (n * 2)).drop (i * 2) ++ cur.drop ((n + 1) * 2)).drop (i * 2 + 2) = (cur.take (n * 2)).drop (i * 2) ++ cur.drop ((n + 1) * 2) := by
      have e4 : (cur.take ((i + 1) * 2)).length = i * 2 + 2 := by simp; omega
      rw [List.append_assoc, ← e4, List.drop_left]
    rw [e2, e3]
    simp
  rw [e]
  have e5 : ((cur.take (n * 2)).take (i * 2) ++ nc ++ (cur.take (n * 2)).drop (i * 2)).length = (n + 1) * 2 := by simp [hn]; omega
  rw [← e5, List.take_left]

theorem shape_blk {w : World} {g : Nat} {cs : Array Value} {t : TypeId} (h : w.heap[g]? = some (.cells cs t (0, 0))) : w.shape? g = some (t, cs.size) := by
  unfold World.shape?
  rw [h]
set_option maxRecDepth 100000 in
set_option maxHeartbeats 2000000 in
/-- .. in the midst, where there is room. -/
theorem insert_shift (S : Nat → Prop) (base lo vb i : Nat) (A : Option Addr) (cap : Nat) (l : List Row) (r : Row) (u0 u1 : Value) (w : World) (hN : Kd.N (kOwn S) 52 w base (fun k => base ≤ k) (.slice A l.length cap) l) (hl : l.length ≤ 1099511627776) (hi : i < l.length) (hroom : l.length + 1 ≤ cap)
    (hvb : w.heap[vb]? = some (.cells #[u0, u1] 52 (0, 0))) (h0 : u0.oneCell' = true) (h1 : u1.oneCell' = true) (hFK : Kd.FK (kOwn S) w (fun k => lo ≤ k) r [u0, u1]) (hlv : lo ≤ vb) (hlo : ∀ k, (Value.slice A l.length cap).ownBlock = some k → k < lo) (hbl : base ≤ lo) :
    Calls Tryd.prog 61 #[.slice A l.length cap, .int .i64 i, .slice (some ⟨vb, 0, none⟩) 1 1] w (InsPost S base (.slice A l.length cap) l i r w) := by
  obtain ⟨g, cur, rows, rfl, hg, hh, hnc, hmax, hcs, hrl, hreps, hf⟩ := N_open hN (by omega)
  have hgl : g < lo := hlo g rfl
  have hgv : vb ≠ g := by omega
  have hct : cur.toList.length = cap * 2 := by rw [Array.length_toList, hcs]
  obtain ⟨hov1, hov2⟩ := over_take (cur := cur.toList) (nc := [u0, u1]) (i := i) (n := l.length) rfl (by omega) (by rw [hct]; omega)
  have hall := Kd.reps_one hreps (by omega) (fun p c hp => hp.1 ▸ hp.2.2)
  obtain ⟨mid, hmid⟩ : ∃ mid, (cur.toList.take (l.length * 2)).drop (i * 2) = mid := ⟨_, rfl⟩
  have hml : mid.length = (l.length - i) * 2 := by rw [← hmid]; simp; omega
  have hover : ∀ lb cb W, W.heap = w.heap → (callFunc 81 #[.slice (some ⟨vb, 0, none⟩) 1 1, .slice (some ⟨g, (i + 1) * 2, none⟩) lb cb]).run Tryd.prog W = .ok (.value (.bool false)) W := fun lb cb W hW => by
    rw [run_callFunc_extern Tryd.func81 (by kernel_rfl) (by kernel_rfl) (by kernel_rfl) (e := Extern.SlicesOverlaps.overlaps #[22, 22] #[4]) (by kernel_rfl),
      Lib.run_overlaps_apart W 22 4 52 Tryd.underlying22 2 Tryd.sizeOf52 ⟨vb, 0, none⟩ ⟨g, (i + 1) * 2, none⟩ 1 1 lb cb hgv 52 52 2 cur.size (shape_blk (by rw [hW]; exact hvb)) (shape_blk (by rw [hW]; exact hh)) (by omega) (blk_frozen (by rw [hW]; exact hvb) 0) (blk_frozen (by rw [hW]; exact hvb) 2)]
    rfl
  -- the two copies
  have hsz : (Tryd.prog.info? 52).map (·.size) = some 2 := by kernel_rfl
  have hmin1 : Nat.min (l.length + 1 - i) (l.length + 1 - (i + 1)) = l.length - i := by simp only [Nat.min_def]; split <;> omega
  have hmin2 : Nat.min 1 (l.length + 1 - i) = 1 := by simp only [Nat.min_def]; split <;> omega
  obtain ⟨cur1, hc1, hc1l⟩ := cp.setCells_blk mid ((i + 1) * 2) w.drew cur hh (by rw [hml]; omega)
  have hc1s : cur1.size = cap * 2 := by rw [← Array.length_toList, hc1l, cp.over_length (by rw [hct, hml]; omega), hct]
  have hcp1 : ∀ (W : World) ty dc sc, W.heap = w.heap → (Builtin.copy_ #[22, 22] ty #[.slice (some ⟨g, (i + 1) * 2, none⟩) (l.length + 1 - (i + 1)) dc, .slice (some ⟨g, i * 2, none⟩) (l.length + 1 - i) sc]).run Tryd.prog W = .ok (goInt (Nat.min (l.length + 1 - i) (l.length + 1 - (i + 1)))) (W.setCells g ((i + 1) * 2) mid) := fun W ty dc sc hW =>
    cp.run_copy_blk W _ _ ty 52 g ((i + 1) * 2) _ dc ⟨g, i * 2, none⟩ _ sc 2 mid cur 52 Tryd.underlying22 hsz (by rw [hmin1, hml])
      (fun j v hj => by
        have hb : W.heap[g]? = some (.cells cur 52 (0, 0)) := by rw [hW]; exact hh
        rw [kb.add_plain', blk_cell hb]
        rw [← hmid, List.getElem?_drop, List.getElem?_take] at hj
        split at hj
        · rw [← Array.getElem?_toList]; exact hj
        · cases hj) (by rw [hW]; exact hh) (by rw [hml]; omega) (fun v hv => hall v (by rw [← hmid] at hv; exact List.mem_of_mem_drop hv))
  have hli : (i : Int) ≤ (l.length : Int) := by omega
  have hz1 : ¬ ((i : Int) = (l.length : Int)) := by omega
  have hz2 : ((i : Int) == (l.length : Int)) = false := by rw [beq_eq_false_iff_ne]; omega
  have hz3 : decide ((cap : Int) < (l.length : Int) + 1) = false := decide_eq_false (by omega)
  have HOV := Lib.hid hover
  have HCP1 := Lib.hid hcp1
  have hvb5 : ∀ W5, W5 = w.drew.setCells g ((i + 1) * 2) mid → W5.heap[vb]? = some (.cells #[u0, u1] 52 (0, 0)) := fun W5 e => by
    rw [e]; exact blk_grown (w := w.drew) (row := some g) hvb (cp.setCells_grown mid ((i + 1) * 2) w.drew) (fun e => hgv (Option.some.inj e))
  have hcp2 : ∀ (W : World) ty dc, W = w.drew.setCells g ((i + 1) * 2) mid → (Builtin.copy_ #[22, 22] ty #[.slice (some ⟨g, i * 2, none⟩) (l.length + 1 - i) dc, .slice (some ⟨vb, 0, none⟩) 1 1]).run Tryd.prog W = .ok (goInt (Nat.min 1 (l.length + 1 - i))) (W.setCells g (i * 2) [u0, u1]) := fun W ty dc hW =>
    cp.run_copy_blk W _ _ ty 52 g (i * 2) _ dc ⟨vb, 0, none⟩ _ 1 2 [u0, u1] cur1 52 Tryd.underlying22 hsz (by rw [hmin2]; rfl)
      (fun j v hj => by
        rw [add_plain, blk_cell (hvb5 W hW)]
        match j with
        | 0 => simpa using hj
        | 1 => simpa using hj
        | j + 2 => simp at hj) (by rw [hW]; exact hc1) (by simp; omega) (fun v hv => by simp at hv; rcases hv with rfl | rfl <;> assumption)
  have HCP2 := Lib.hid hcp2
  have HH := Lib.hid (And.intro hov1 (And.intro hov2 (And.intro hreps (And.intro hmid hc1l))))
  have HFF := Lib.hid hf
  clear hover hcp1 hcp2 hvb5 hov1 hov2 hreps hall hmid hN hf hct hc1l
  go_enter Tryd.func61, Tryd.ntmps61
  go_wp2_with (rw [HOV.out _ _ w rfl])
  refine reg.region_chain_wp [false, false, false, false, false, false, false, false, true] (T := fun _ => True) (by kernel_rfl) rfl (by kernel_rfl) ?_
  dsimp only [reg.splitQ, reg.splitM]
  iterate 8
    apply reg.read_cons
    case h =>
      intro W' hT
      go_wp2
      exact ⟨rfl, _, rfl, rfl, rfl⟩
    try simp only [Act.put, List.setIfInBounds_toArray, List.set_cons_zero, List.set_cons_succ]
  apply reg.read_nil
  refine reg.chain_cons trivial ?_
  refine cp.wpList_copy_run _ rfl (.tmp 73) (.tmp 76) 22 22 rfl (.slice (some ⟨g, (i + 1) * 2, none⟩) (l.length + 1 - (i + 1)) (cap - (i + 1))) (.slice (some ⟨g, i * 2, none⟩) (l.length + 1 - i) (cap - i)) ?va ?vb (HCP1.out w.drew _ _ _ rfl) ?_
  case va => simp [Act.eval]
  case vb => simp [Act.eval]
  refine ⟨rfl, _, rfl, ?_⟩
  try simp only [Act.put, List.setIfInBounds_toArray, List.set_cons_zero, List.set_cons_succ]
  apply reg.chain_nil
  obtain ⟨W5, hW5⟩ : ∃ W5, w.drew.setCells g ((i + 1) * 2) mid = W5 := ⟨_, rfl⟩
  have hb5 : W5.heap[g]? = some (.cells cur1 52 (0, 0)) := by rw [← hW5]; exact hc1
  rw [hW5]
  go_wp2_with (refine cp.wpList_copy_run _ rfl (.tmp 80) (.tmp 81) 22 22 rfl (.slice (some ⟨g, i * 2, none⟩) (l.length + 1 - i) (cap - i)) (.slice (some ⟨vb, 0, none⟩) 1 1) rfl rfl (HCP2.out W5 _ _ hW5.symm) ?_)
  go_ret
  obtain ⟨hov1, hov2, hreps, hmid, hc1l⟩ := HH.out
  obtain ⟨cur2, hc2, hc2l⟩ := cp.setCells_blk [u0, u1] (i * 2) W5 cur1 hb5 (by simp; omega)
  have e2 : cur2.toList = over2 cur.toList i l.length [u0, u1] := by rw [hc2l, hc1l, ← hmid]; rfl
  have hg1 : w.grownBy W5 (some g) := by
    have h := cp.setCells_grown (g := g) mid ((i + 1) * 2) w.drew
    rw [hW5] at h
    exact ⟨h.os, h.tape, h.output, h.size, h.block⟩
  have hg2 := cp.setCells_grown (g := g) [u0, u1] (i * 2) W5
  have hgg : w.grownBy (W5.setCells g (i * 2) [u0, u1]) (some g) := ⟨hg2.os.trans hg1.os, hg2.tape.trans hg1.tape, hg2.output.trans hg1.output, Nat.le_trans hg1.size hg2.size, fun k hk hne => (hg2.block k (by have := hg1.size; omega) hne).trans (hg1.block k hk hne)⟩
  have hml2 : maxLen = 9223372036854775807 := by decide
  refine ⟨_, rfl, N_inserted (nc := [u0, u1]) (inner := cur.toList.take (l.length * 2)) (rows := rows) (v := .slice (some ⟨g, 0, none⟩) l.length cap) hrl (by omega) hreps HFF.out rfl (fun v hv => by simp at hv; rcases hv with rfl | rfl <;> assumption) hFK hlo hbl ⟨?_, .inr ⟨g, cap, cur2, rfl, hg, hc2, hroom, by omega, ?_, ?_⟩⟩ hgg (.inl rfl), hgg⟩
  · rw [← hov1, List.length_take, hov2, show cur.toList.length = cap * 2 by rw [Array.length_toList, hcs]]; omega
  · rw [← Array.length_toList, e2, hov2, Array.length_toList, hcs]
  · rw [e2, hov1]

theorem blk_old {w : World} {o : Obj} {k : Nat} {x : Obj} (h : w.heap[k]? = some x) : (w.drew.alloc o).heap[k]? = some x := blk_alloc (w := w.drew) h o
set_option maxRecDepth 100000 in
set_option maxHeartbeats 2000000 in
/-- .. in the midst, where there is no room: a new row. -/
theorem insert_grow (S : Nat → Prop) (base lo vb i : Nat) (A : Option Addr) (cap : Nat) (l : List Row) (r : Row) (u0 u1 : Value) (w : World) (hN : Kd.N (kOwn S) 52 w base (fun k => base ≤ k) (.slice A l.length cap) l) (hl : l.length ≤ 1099511627776) (hi : i < l.length) (hroom : cap < l.length + 1)
    (hvb : w.heap[vb]? = some (.cells #[u0, u1] 52 (0, 0))) (h0 : u0.oneCell' = true) (h1 : u1.oneCell' = true) (hFK : Kd.FK (kOwn S) w (fun k => lo ≤ k) r [u0, u1]) (hlv : lo ≤ vb) (hlo : ∀ k, (Value.slice A l.length cap).ownBlock = some k → k < lo) (hbl : base ≤ lo) :
    Calls Tryd.prog 61 #[.slice A l.length cap, .int .i64 i, .slice (some ⟨vb, 0, none⟩) 1 1] w (InsPost S base (.slice A l.length cap) l i r w) := by
  obtain ⟨g, cur, rows, rfl, hg, hh, hnc, hmax, hcs, hrl, hreps, hf⟩ := N_open hN (by omega)
  obtain rfl : cap = l.length := by omega
  have hgl : g < lo := hlo g rfl
  have hct : cur.toList.length = l.length * 2 := by rw [Array.length_toList, hcs]
  have hctk : cur.toList.take (l.length * 2) = cur.toList := List.take_of_length_le (by omega)
  rw [hctk] at hreps
  have hall := Kd.reps_one hreps (by omega) (fun p c hp => hp.1 ▸ hp.2.2)
  obtain ⟨ii, hii, hiz⟩ : ∃ ii : TypeInfo, Tryd.prog.info? 52 = some ii ∧ (ii.zero = some (.agg #[.string ⟨#[]⟩, .slice none 0 0]) ∧ ii.size = 2 ∧ ii.bytes = 40) := by
    have h : (Tryd.prog.info? 52).map (fun i => (i.zero, i.size, i.bytes)) = some (some (.agg #[.string ⟨#[]⟩, .slice none 0 0]), 2, 40) := by kernel_rfl
    obtain ⟨ii, h1, h2⟩ := Option.map_eq_some_iff.1 h
    simp only [Prod.mk.injEq] at h2
    exact ⟨ii, h1, h2⟩
  have hold : ∀ W : World, W.heap = w.heap → (Builtin.firstCells ii.size i (.slice (some ⟨g, 0, none⟩) i l.length)).run Tryd.prog W = .ok (cur.toList.take (i * 2)).toArray W := fun W hW => by
    rw [hiz.2.1]
    refine run_firstCells_some W 2 i ⟨g, 0, none⟩ i l.length (cur.toList.take (i * 2)) (by simp; omega) (fun j v hj => ?_)
    have hb : W.heap[g]? = some (.cells cur 52 (0, 0)) := by rw [hW]; exact hh
    rw [add_plain, blk_cell hb]
    rw [List.getElem?_take] at hj
    split at hj
    · rw [← Array.getElem?_toList]; exact hj
    · cases hj
  have hbytes : Builtin.nextslicecap (l.length + 1) l.length * ii.bytes ≤ 281474976710656 := by rw [hiz.2.2]; exact growslice_fits (by omega) (by omega)
  have hgrow : ∀ ty, (Builtin.append_ #[22, 3] ty #[.slice (some ⟨g, 0, none⟩) i l.length, .int .i64 ((l.length : Int) + 1 - i)]).run Tryd.prog w =
      .ok (.slice (some ⟨w.heap.size, 0, none⟩) (l.length + 1) (grownCap w (l.length + 1) l.length 52)) (w.drew.alloc (.cells ((cur.toList.take (i * 2)).toArray ++ Builtin.zeroCells (Value.agg #[.string ⟨#[]⟩, .slice none 0 0]).cells (l.length + 1 - i) ++ Builtin.zeroCells (Value.agg #[.string ⟨#[]⟩, .slice none 0 0]).cells (grownCap w (l.length + 1) l.length 52 - (l.length + 1))) 52)) := fun ty => by
    have e : i + (l.length + 1 - i) = l.length + 1 := by omega
    have h := Lib.run_append_grow_zeros w 22 3 ty 52 ii _ .i64 .i64 Tryd.underlying22 Tryd.underlying3 hii hiz.1 (some ⟨g, 0, none⟩) i l.length (cur.toList.take (i * 2)) (hold w.drew rfl) (l.length + 1 - i) (by omega) (by rw [hiz.2.1]; omega) (by omega) (by omega) (by rw [hiz.2.2]; omega) (by rw [e]; exact hbytes)
    rw [e] at h
    have e2 : ((l.length : Int) + 1 - i) = ((l.length + 1 - i : Nat) : Int) := by omega
    rw [e2]; exact h
  obtain ⟨G, hG⟩ : ∃ G, grownCap w (l.length + 1) l.length 52 = G := ⟨_, rfl⟩
  have hGe : l.length + 1 ≤ G := by rw [← hG]; exact grownCap_ge _ _ _ _
  obtain ⟨ROW, hROW⟩ : ∃ ROW : Array Value, (cur.toList.take (i * 2)).toArray ++ Builtin.zeroCells (Value.agg #[.string ⟨#[]⟩, .slice none 0 0]).cells (l.length + 1 - i) ++ Builtin.zeroCells (Value.agg #[.string ⟨#[]⟩, .slice none 0 0]).cells (G - (l.length + 1)) = ROW := ⟨_, rfl⟩
  rw [hG, hROW] at hgrow
  obtain ⟨W1, hW1⟩ : ∃ W1, w.drew.alloc (.cells ROW 52) = W1 := ⟨_, rfl⟩
  rw [hW1] at hgrow
  have hRs : ROW.size = G * 2 := by
    rw [← hROW]
    simp [Builtin.zeroCells, Value.cells]
    omega
  have hblk1 : W1.heap[w.heap.size]? = some (.cells ROW 52 (0, 0)) := by rw [← hW1]; exact blk_new w.drew _
  have hvl : vb < w.heap.size := blk_lt hvb
  have hgw : g < w.heap.size := blk_lt hh
  have hvb1 : W1.heap[vb]? = some (.cells #[u0, u1] 52 (0, 0)) := by rw [← hW1]; exact blk_old hvb
  have hh1 : W1.heap[g]? = some (.cells cur 52 (0, 0)) := by rw [← hW1]; exact blk_old hh
  have hsz : (Tryd.prog.info? 52).map (·.size) = some 2 := by kernel_rfl
  have hmin1 : Nat.min (l.length - i) (l.length + 1 - (i + 1)) = l.length - i := by simp only [Nat.min_def]; split <;> omega
  have hmin2 : Nat.min 1 (l.length + 1 - i) = 1 := by simp only [Nat.min_def]; split <;> omega
  have hnu : ∀ v ∈ [u0, u1], v.oneCell' = true := fun v hv => by simp at hv; rcases hv with rfl | rfl <;> assumption
  obtain ⟨W2, hW2⟩ : ∃ W2, W1.setCells w.heap.size (i * 2) [u0, u1] = W2 := ⟨_, rfl⟩
  obtain ⟨row1, hr1, hr1l⟩ := cp.setCells_blk [u0, u1] (i * 2) W1 ROW hblk1 (by simp [hRs]; omega)
  rw [hW2] at hr1
  have hr1s : row1.size = G * 2 := by rw [← Array.length_toList, hr1l, cp.over_length (by simp [hRs]; omega), Array.length_toList, hRs]
  have hcpA : ∀ ty dc, (Builtin.copy_ #[22, 22] ty #[.slice (some ⟨w.heap.size, i * 2, none⟩) (l.length + 1 - i) dc, .slice (some ⟨vb, 0, none⟩) 1 1]).run Tryd.prog W1 = .ok (goInt (Nat.min 1 (l.length + 1 - i))) W2 := fun ty dc => by
    rw [← hW2]
    exact cp.run_copy_blk W1 _ _ ty 52 w.heap.size (i * 2) _ dc ⟨vb, 0, none⟩ _ 1 2 [u0, u1] ROW 52 Tryd.underlying22 hsz (by rw [hmin2]; rfl)
      (fun j v hj => by
        rw [add_plain, blk_cell hvb1]
        match j with
        | 0 => simpa using hj
        | 1 => simpa using hj
        | j + 2 => simp at hj) hblk1 (by simp [hRs]; omega) hnu
  have hh2 : W2.heap[g]? = some (.cells cur 52 (0, 0)) := by rw [← hW2]; exact blk_grown hh1 (cp.setCells_grown (g := w.heap.size) [u0, u1] (i * 2) W1) (fun e => by have := Option.some.inj e; omega)
  have hdl : (cur.toList.drop (i * 2)).length = (l.length - i) * 2 := by simp; omega
  have hcpB : ∀ ty dc sc, (Builtin.copy_ #[22, 22] ty #[.slice (some ⟨w.heap.size, (i + 1) * 2, none⟩) (l.length + 1 - (i + 1)) dc, .slice (some ⟨g, i * 2, none⟩) (l.length - i) sc]).run Tryd.prog W2.drew = .ok (goInt (Nat.min (l.length - i) (l.length + 1 - (i + 1)))) (W2.drew.setCells w.heap.size ((i + 1) * 2) (cur.toList.drop (i * 2))) := fun ty dc sc =>
    cp.run_copy_blk W2.drew _ _ ty 52 w.heap.size ((i + 1) * 2) _ dc ⟨g, i * 2, none⟩ _ sc 2 (cur.toList.drop (i * 2)) row1 52 Tryd.underlying22 hsz (by rw [hmin1, hdl])
      (fun j v hj => by
        rw [kb.add_plain', blk_cell (w := W2.drew) hh2]
        rw [List.getElem?_drop] at hj
        rw [← Array.getElem?_toList]; exact hj) hr1 (by rw [hdl]; omega) (fun v hv => hall v (List.mem_of_mem_drop hv))
  have hli : (i : Int) ≤ (l.length : Int) := by omega
  have hz1 : ¬ ((i : Int) = (l.length : Int)) := by omega
  have hz2 : ((i : Int) == (l.length : Int)) = false := by rw [beq_eq_false_iff_ne]; omega
  have hz3 : decide ((l.length : Int) < (l.length : Int) + 1) = true := decide_eq_true (by omega)
  have HG := Lib.hid hgrow
  have HA := Lib.hid hcpA
  have HB := Lib.hid hcpB
  have HFF := Lib.hid hf
  have HH := Lib.hid (And.intro hreps (And.intro hROW (And.intro hr1l hr1)))
  clear hgrow hcpA hcpB hf hreps hROW hr1l hr1 hold hbytes hN hctk hall hct hiz
  go_enter Tryd.func61, Tryd.ntmps61
  go_wp2_with (first
    | (at_builtin; refine Lib.wpList_append_run _ rfl (.tmp 34) (.tmp 39) 22 3 rfl (.slice (some ⟨g, 0, none⟩) i l.length) (.int .i64 ((l.length : Int) + 1 - i)) rfl rfl _ _ (HG.out _) ?_)
    | (refine cp.wpList_copy_run _ rfl (.tmp 43) (.tmp 44) 22 22 rfl (.slice (some ⟨w.heap.size, i * 2, none⟩) (l.length + 1 - i) (G - i)) (.slice (some ⟨vb, 0, none⟩) 1 1) (by simp [Act.eval]) rfl (HA.out _ _) ?_))
  try simp only [Act.put, List.setIfInBounds_toArray, List.set_cons_zero, List.set_cons_succ]
  refine reg.region_chain_wp [false, false, false, false, false, false, false, false, true] (T := fun _ => True) (by kernel_rfl) rfl (by kernel_rfl) ?_
  dsimp only [reg.splitQ, reg.splitM]
  iterate 8
    apply reg.read_cons
    case h =>
      intro W' hT
      go_wp2
      exact ⟨rfl, _, rfl, rfl, rfl⟩
    try simp only [Act.put, List.setIfInBounds_toArray, List.set_cons_zero, List.set_cons_succ]
  apply reg.read_nil
  refine reg.chain_cons trivial ?_
  refine cp.wpList_copy_run _ rfl (.tmp 50) (.tmp 53) 22 22 rfl (.slice (some ⟨w.heap.size, (i + 1) * 2, none⟩) (l.length + 1 - (i + 1)) (G - (i + 1))) (.slice (some ⟨g, i * 2, none⟩) (l.length - i) (l.length - i)) ?va ?vb (HB.out _ _ _) ?_
  case va => simp [Act.eval]
  case vb => simp [Act.eval]
  refine ⟨rfl, _, rfl, ?_⟩
  try simp only [Act.put, List.setIfInBounds_toArray, List.set_cons_zero, List.set_cons_succ]
  apply reg.chain_nil
  go_wp2
  go_ret
  obtain ⟨hreps, hROW, hr1l, hr1⟩ := HH.out
  obtain ⟨row2, hr2, hr2l⟩ := cp.setCells_blk (cur.toList.drop (i * 2)) ((i + 1) * 2) W2.drew row1 hr1 (by rw [hdl]; omega)
  have htk : ROW.toList.take (i * 2) = cur.toList.take (i * 2) := by
    have hle : (cur.toList.take (i * 2)).length = i * 2 := by simp; omega
    rw [← hROW]
    simp only [Array.toList_append, List.append_assoc]
    rw [List.take_append_of_le_length (by rw [hle]; exact Nat.le_refl _), List.take_of_length_le (by rw [hle]; exact Nat.le_refl _)]
  have e2 : row2.toList.take ((l.length + 1) * 2) = cur.toList.take (i * 2) ++ [u0, u1] ++ cur.toList.drop (i * 2) := by
    rw [hr2l, hr1l]
    unfold cp.over
    rw [htk, hdl]
    have hle : (cur.toList.take (i * 2)).length = i * 2 := by simp; omega
    have e3 : (cur.toList.take (i * 2) ++ [u0, u1] ++ ROW.toList.drop (i * 2 + [u0, u1].length)).take ((i + 1) * 2) = cur.toList.take (i * 2) ++ [u0, u1] := by
      have e4 : (cur.toList.take (i * 2) ++ [u0, u1]).length = (i + 1) * 2 := by simp; omega
      rw [← e4, List.take_left]
    rw [e3]
    have e5 : (cur.toList.take (i * 2) ++ [u0, u1] ++ cur.toList.drop (i * 2)).length = (l.length + 1) * 2 := by simp; omega
    rw [← e5, List.take_left]
  have e6 : row1.toList.length = G * 2 := by rw [Array.length_toList, hr1s]
  have hr2s : row2.size = G * 2 := by rw [← Array.length_toList, hr2l, cp.over_length (by omega), e6]
  have hml2 : maxLen = 9223372036854775807 := by decide
  have hG2 : G ≤ maxLen := by rw [← hG]; exact grownCap_le_maxLen _ _ _ _ (by omega)
  have hgA := cp.setCells_grown (g := w.heap.size) [u0, u1] (i * 2) W1
  have hgB := cp.setCells_grown (g := w.heap.size) (cur.toList.drop (i * 2)) ((i + 1) * 2) W2.drew
  rw [hW2] at hgA
  have hs1 : w.heap.size ≤ W1.heap.size := by rw [← hW1]; simp
  have hgg : ∀ row, w.grownBy (W2.drew.setCells w.heap.size ((i + 1) * 2) (cur.toList.drop (i * 2))) row := fun row => by
    refine ⟨hgB.os.trans (hgA.os.trans (by rw [← hW1]; rfl)), hgB.tape.trans (hgA.tape.trans (by rw [← hW1]; rfl)), hgB.output.trans (hgA.output.trans (by rw [← hW1]; rfl)), Nat.le_trans hs1 (Nat.le_trans hgA.size hgB.size), fun k hk _ => ?_⟩
    have hne : some k ≠ some w.heap.size := fun e => by have := Option.some.inj e; omega
    rw [hgB.block k (by show k < W2.heap.size; have := hgA.size; omega) hne]
    show W2.heap[k]? = _
    rw [hgA.block k (by omega) hne, ← hW1]
    exact Below.heap_alloc w.drew _ k hk
  refine ⟨_, rfl, N_inserted (nc := [u0, u1]) (inner := cur.toList) (rows := rows) (v := .slice (some ⟨g, 0, none⟩) l.length l.length) hrl (by omega) hreps HFF.out rfl hnu hFK hlo hbl ⟨?_, .inr ⟨w.heap.size, G, row2, rfl, by omega, hr2, hGe, hG2, hr2s, e2⟩⟩ (hgg _) (.inr ⟨w.heap.size, rfl, Nat.le_refl _⟩), hgg _⟩
  simp [hcs]; omega

theorem insert_any (S : Nat → Prop) (base lo vb i : Nat) (A : Option Addr) (cap : Nat) (l : List Row) (r : Row) (u0 u1 : Value) (w : World) (hN : Kd.N (kOwn S) 52 w base (fun k => base ≤ k) (.slice A l.length cap) l) (hl : l.length ≤ 1099511627776) (hi : i ≤ l.length)
    (hvb : w.heap[vb]? = some (.cells #[u0, u1] 52 (0, 0))) (h0 : u0.oneCell' = true) (h1 : u1.oneCell' = true) (hFK : Kd.FK (kOwn S) w (fun k => lo ≤ k) r [u0, u1]) (hlv : lo ≤ vb) (hlo : ∀ k, (Value.slice A l.length cap).ownBlock = some k → k < lo) (hbl : base ≤ lo) (hlw : lo ≤ w.heap.size) :
    Calls Tryd.prog 61 #[.slice A l.length cap, .int .i64 i, .slice (some ⟨vb, 0, none⟩) 1 1] w (InsPost S base (.slice A l.length cap) l i r w) := by
  by_cases he : i = l.length
  · subst he
    refine insert_end S base lo vb A cap l r w hN hl ?_ hlo hbl hlw
    intro W' hW'
    have hb : W'.heap[vb]? = some (.cells #[u0, u1] 52 (0, 0)) := (hW' vb hlv (blk_lt hvb)).trans hvb
    refine ⟨rfl, by simp, fun _ => ⟨_, rfl, fun j p hj => ?_⟩⟩
    obtain ⟨rfl, rfl⟩ : j = 0 ∧ p = r := by
      cases j with
      | zero => exact ⟨rfl, by simpa using hj.symm⟩
      | succ j => simp at hj
    refine ⟨[u0, u1], rfl, hFK W' hW', fun m u hu => ?_⟩
    rw [add_plain, blk_cell hb]
    match m with
    | 0 => simpa using hu
    | 1 => simpa using hu
    | m + 2 => simp at hu
  · by_cases hr : l.length + 1 ≤ cap
    · exact insert_shift S base lo vb i A cap l r u0 u1 w hN hl (by omega) hr hvb h0 h1 hFK hlv hlo hbl
    · exact insert_grow S base lo vb i A cap l r u0 u1 w hN hl (by omega) (by omega) hvb h0 h1 hFK hlv hlo hbl
end Go.Proofs.YtmjmcmohicjfkaaDoor.tab
