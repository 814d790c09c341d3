import Derived.Test.YtmjmcmohicjfkaaDoorTabE
import Derived.Test.YtmjmcmohicjfkaaDoorRegC
namespace Go.Proofs.YtmjmcmohicjfkaaDoor.tab
open Go.RowKit Go.Shelf Go.Proofs.YtmjmcmohicjfkaaDoorW.PrintWords
attribute [local go_sem] Oper.semAt_some reg.FR_round

def colon : ByteArray := ⟨#[58]⟩
def cutLine (x : ByteArray) : ByteArray := ⟨(Lib.trimSuffix x.data.toList [10]).toArray⟩
def wordsOf (x : ByteArray) : List ByteArray := Lib.splitB colon 0 (Lib.countB (cutLine x) colon) (cutLine x)
def rowOf (x : ByteArray) : Row := ⟨(wordsOf x).headD ⟨#[]⟩, (wordsOf x).tail⟩
def parseP (t : ByteArray) (s : List UInt8) (xs : List ByteArray) : List Row × Int :=
  if (printP t (xs.map rowOf)).2 = 0 ∧ (printP t (xs.map rowOf)).1 = s then (xs.map rowOf, 0) else ([], 51)

theorem trim_len (s p : List UInt8) : (Lib.trimSuffix s p).length ≤ s.length := by
  unfold Lib.trimSuffix
  split
  · simp
  · exact Nat.le_refl _
theorem split_line {x : ByteArray} {m : Int} (h : 2 ≤ (wordsOf x).length ∧ (wordsOf x).length = Lib.countB (cutLine x) colon + 1 ∧ (∀ y ∈ wordsOf x, y.size ≤ 1000) ∧ (wordsOf x).length ≤ 1000 ∧ x.size ≤ 1000) :
    ∃ y0 ys, rowOf x = ⟨y0, ys⟩ ∧ 1 ≤ ys.length ∧ ys.length ≤ 1000 ∧ ∀ W : World, W.cell? ⟨1, 0, none⟩ = some (.int .i64 m) → Calls Tryd.prog 65 #[.string ⟨(Lib.trimSuffix x.data.toList [10]).toArray⟩, .string ⟨#[58]⟩] W fun e w' =>
      e = .returned (.slice (some ⟨W.heap.size, 0, none⟩) (ys.length + 1) (ys.length + 1)) ∧ w' = W.alloc (.cells ((y0 :: ys).map Value.string).toArray 9) := by
  obtain ⟨h2, hl, hy, hn, hs⟩ := h
  cases hw : wordsOf x with
  | nil => rw [hw] at h2; simp at h2
  | cons y0 ys =>
    rw [hw] at h2 hl hn
    simp only [List.length_cons] at h2 hl hn
    refine ⟨y0, ys, by unfold rowOf; rw [hw]; rfl, by omega, by omega, fun W hm => ?_⟩
    have htr : (cutLine x).size ≤ 1000 := by
      unfold cutLine
      simp only [ByteArray.size_mk', List.size_toArray]
      have := trim_len x.data.toList [10]
      rw [data_length] at this
      omega
    refine (Tryd.strings_Split (cutLine x) colon m W (by omega) hm (by decide)).mono ?_
    rintro e w' ⟨rfl, rfl⟩
    rw [← hl]
    refine ⟨rfl, ?_⟩
    rw [← hw]; rfl
theorem small_row {x : ByteArray} (h : ∀ y ∈ wordsOf x, y.size ≤ 1000) : SmallRow (rowOf x) := by
  unfold rowOf
  cases hw : wordsOf x with
  | nil => exact ⟨Nat.zero_le _, by simp⟩
  | cons y ys =>
    rw [hw] at h
    refine ⟨?_, fun c hc => ?_⟩
    · have := h y (by simp)
      simp only [List.headD_cons]
      omega
    · have := h c (by simp at hc; simp [hc])
      omega
theorem fk_row {W : World} {ok : Nat → Prop} {A1 : Option Addr} {c1 : Nat} {r : Row} (hl : r.f1.length ≤ c1) (hf : Kd.F Kd.string W ok A1 r.f1.length r.f1) : Kd.FK kRow W ok r [.string r.f0, .slice A1 r.f1.length c1] :=
  fun W' hW => ⟨[.string r.f0], [.slice A1 r.f1.length c1], rfl, rfl, A1, c1, rfl, hl, hf W' hW⟩

/-- What Parse keeps: its results' boxes, the rows read so far. -/
structure PI (w : World) (b6 D : Nat) (rows : List Row) (W : World) : Prop where
  bel : Below w.heap.size w W
  b4 : W.heap[w.heap.size]? = some (.cells #[.slice none 0 0] 22 (0, 0))
  b5 : W.heap[w.heap.size + 1]? = some (.cells #[.int .i64 0] 25 (0, 0))
  x6 : ∃ v, W.heap[b6]? = some (.cells #[v] 22 (0, 0)) ∧ Kd.N kRow 52 W (D + 2) (fun k => D + 2 ≤ k) v rows
  lt : w.heap.size + 1 < b6 ∧ b6 < D ∧ D ≤ W.heap.size
theorem PI.own {w : World} {b6 D : Nat} : rng.LoopOwn D (fun rows W => PI w b6 D rows W) := by
  rintro rows W W' row ⟨h1, h2, h3, ⟨v, h4, h5⟩, h6⟩ hg hr
  have hne : ∀ k, k < D + 1 → some k ≠ row := fun k hk e => by
    have := hr k e.symm; omega
  have hne2 : ∀ k, D + 2 ≤ k → some k ≠ row := fun k hk e => by
    have := hr k e.symm; omega
  refine ⟨h1.grown hg ?_ ?_, blk_grown h2 hg (hne _ (by omega)), blk_grown h3 hg (hne _ (by omega)), ⟨v, blk_grown h4 hg (hne _ (by omega)), Kd.N_grown h5 hg hne2⟩, h6.1, h6.2.1, by have := hg.size; omega⟩
  · have := h1.size; omega
  · intro k hk; have := hr k hk; omega
theorem PI.stp {w : World} {b6 D Bs : Nat} {rows : List Row} {A B : World} (h : PI w b6 D rows A) (hs : lines.Stp Bs A B) (h1 : b6 < Bs) (h2 : Bs < D) : PI w b6 D rows B := by
  obtain ⟨h3, h4, h5, ⟨v, h6, h7⟩, h8⟩ := h
  have ho : ∀ k, k ≠ Bs → k < A.heap.size → B.heap[k]? = A.heap[k]? := hs.oth
  refine ⟨⟨hs.bel.os.trans h3.os, hs.bel.tape.trans h3.tape, hs.bel.output.trans h3.output, Nat.le_trans h3.size hs.bel.size, fun k hk => ?_⟩, (ho _ (by omega) (blk_lt h4)).trans h4, (ho _ (by omega) (blk_lt h5)).trans h5, ⟨v, (ho _ (by omega) (blk_lt h6)).trans h6, Kd.N_step h7 (fun k hk hlt => ho k (by omega) hlt)⟩, h8.1, h8.2.1, Nat.le_trans h8.2.2 hs.bel.size⟩
  rw [ho k (by omega) (by have := h3.size; omega)]
  exact h3.block k hk

theorem keeps_below {W W' : World} (h : Below W.heap.size W W') : KeepsOthers W W' := ⟨h.size, fun k _ hk _ => (h.block k (Array.getElem?_eq_some_iff.1 hk).1).trans hk⟩
theorem PI.round {w W w5 w7 : World} {b6 D : Nat} {rows rows' : List Row} {v v1 : Value} (hI : PI w b6 D rows W) (hD : D + 2 ≤ W.heap.size) (hN : Kd.N kRow 52 W (D + 2) (fun k => D + 2 ≤ k) v rows) (hv : W.heap[b6]? = some (.cells #[v] 22 (0, 0))) (hb : Below W.heap.size W w5) (hg : w5.grownBy w7 v.ownBlock)
    (hN7 : Kd.N kRow 52 w7 (D + 2) (fun k => D + 2 ≤ k) v1 rows') :
    PI w b6 D rows' (w7.setCell ⟨b6, 0, none⟩ v1) ∧ KeepsOthers W (w7.setCell ⟨b6, 0, none⟩ v1) ∧ (∀ k o, k ≠ b6 → k < D → W.heap[k]? = some o → (w7.setCell ⟨b6, 0, none⟩ v1).heap[k]? = some o) ∧ (w7.heap[b6]? = some (.cells #[v] 22 (0, 0))) := by
  have hown : ∀ k, v.ownBlock = some k → D + 2 ≤ k := Kd.N_base hN
  have hlt := hI.lt
  have h7 : ∀ k o, k < D → W.heap[k]? = some o → w7.heap[k]? = some o := fun k o hk ho => blk_grown (blk_below ho hb) hg (fun e => by have := hown k e.symm; omega)
  have hset : ∀ k o, k ≠ b6 → k < D → W.heap[k]? = some o → (w7.setCell ⟨b6, 0, none⟩ v1).heap[k]? = some o := fun k o hne hk ho => (Below.heap_setCell w7 ⟨b6, 0, none⟩ v1 k hne).trans (h7 k o hk ho)
  have hB : Below w.heap.size w w7 := pw_below_grown (below_step hI.bel hb) _ (by have := hI.bel.size; have := hb.size; omega) hg (fun k hk => by have := hown k hk; have := hI.bel.size; omega)
  refine ⟨⟨below_set hB (by omega), hset _ _ (by omega) (by omega) hI.b4, hset _ _ (by omega) (by omega) hI.b5, ⟨v1, blk_put (h7 _ _ hlt.2.1 hv) 0 _ rfl, Kd.N_far hN7 (fun k hk e => by have e' : k = b6 := e; omega) _⟩, hlt.1, hlt.2.1, ?_⟩, ?_, hset, h7 _ _ hlt.2.1 hv⟩
  · have := hb.size; have := hg.size; simp; omega
  · refine (keeps_below hb).trans ((KeepsOthers.of_grownBy hg (fun j _ hj ho => ?_)).trans (KeepsOthers.setCell _ _ _))
    obtain ⟨cells, hc⟩ := Kd.N_typed (Kd.N_below hN hb) j hj
    rw [hc] at ho; cases ho; rfl
/-- Both results are written. -/
theorem PI.two {w w3 : World} {b6 D : Nat} {rows : List Row} (h : PI w b6 D rows w3) (X : Value) : ∃ w4, w3.setCell ⟨w.heap.size, 0, none⟩ X = w4 ∧ w3.frozen? ⟨w.heap.size, 0, none⟩ = false ∧ w3.cell? ⟨w.heap.size, 0, none⟩ = some (.slice none 0 0) ∧
    w4.frozen? ⟨w.heap.size + 1, 0, none⟩ = false ∧ w4.cell? ⟨w.heap.size + 1, 0, none⟩ = some (.int .i64 0) ∧ ∀ n : Int, ∃ w5, w4.setCell ⟨w.heap.size + 1, 0, none⟩ (.int .i64 n) = w5 ∧ w5.cell? ⟨w.heap.size, 0, none⟩ = some X ∧ w5.cell? ⟨w.heap.size + 1, 0, none⟩ = some (.int .i64 n) ∧
      Below w.heap.size w w5 ∧ w5.heap.size = w3.heap.size ∧ ∀ k, w.heap.size + 1 < k → w5.heap[k]? = w3.heap[k]? := by
  have h5 := (Below.heap_setCell w3 ⟨w.heap.size, 0, none⟩ X (w.heap.size + 1) (by simp)).trans h.b5
  have h4 := blk_set h.b4 0 X
  refine ⟨_, rfl, blk_frozen h.b4 0, (blk_cell h.b4 0).trans rfl, blk_frozen h5 0, (blk_cell h5 0).trans rfl, fun n => ⟨_, rfl, ?_, ?_, ?_, by simp, fun k hk => ?_⟩⟩
  · exact (blk_cell ((Below.heap_setCell _ ⟨w.heap.size + 1, 0, none⟩ _ w.heap.size (by simp)).trans h4) 0).trans rfl
  · exact (blk_cell (blk_set h5 0 (.int .i64 n)) 0).trans rfl
  · exact below_set (below_set h.bel (Nat.le_refl _)) (by omega)
  · exact (Below.heap_setCell _ ⟨w.heap.size + 1, 0, none⟩ _ k (fun e => by have e' : k = w.heap.size + 1 := e; omega)).trans (Below.heap_setCell _ ⟨w.heap.size, 0, none⟩ _ k (fun e => by have e' : k = w.heap.size := e; omega))
theorem PI.below {w W W' : World} {b6 D : Nat} {rows : List Row} (h : PI w b6 D rows W) (hb : Below W.heap.size W W') : PI w b6 D rows W' := by
  obtain ⟨h3, h4, h5, ⟨v, h6, h7⟩, h8⟩ := h
  exact ⟨below_step h3 hb, blk_below h4 hb, blk_below h5 hb, ⟨v, blk_below h6 hb, Kd.N_below h7 hb⟩, h8.1, h8.2.1, Nat.le_trans h8.2.2 hb.size⟩
/-- The way out. -/
theorem PI.out {w w5 : World} {D : Nat} {X : Value} {n : Int} {tmps : Array Value} {R : Ending → World → Prop} (hD : w.heap.size + 1 < D) (k1 : w5.cell? ⟨w.heap.size, 0, none⟩ = some X) (hX : ∃ A n c, X = .slice A n c) (k2 : w5.cell? ⟨w.heap.size + 1, 0, none⟩ = some (.int .i64 n)) (k3 : Below w.heap.size w w5)
    (hK : w5.heap[D]? = some (.deferred (some []))) (h4 : tmps[4]? = some (.pointer (some ⟨w.heap.size, 0, none⟩))) (h5 : tmps[5]? = some (.pointer (some ⟨w.heap.size + 1, 0, none⟩)))
    (hR : Below w.heap.size w (w5.putObj D (.deferred none)) → (∀ k, k ≠ D → (w5.putObj D (.deferred none)).heap[k]? = w5.heap[k]?) → R (.returned (.tuple #[X, .int .i64 n])) (w5.putObj D (.deferred none))) :
    bodyPostM Fence.wide 0 Tryd.prog Tryd.f32 R .ret { tmps := tmps, defers := [{ target := .collected D, args := #[] }] } w5 := by
  refine ⟨by simp, .inl ⟨_, _, rfl, run_takeDeferred hK, ?_⟩⟩
  obtain ⟨A, m, c, rfl⟩ := hX
  have e1 : (w5.putObj D (.deferred none)).cell? ⟨w.heap.size, 0, none⟩ = some (.slice A m c) := (World.cell?_of_block (World.putObj_heap_other (by show w.heap.size ≠ D; omega))).trans k1
  have e2 : (w5.putObj D (.deferred none)).cell? ⟨w.heap.size + 1, 0, none⟩ = some (.int .i64 n) := (World.cell?_of_block (World.putObj_heap_other (by show w.heap.size + 1 ≠ D; omega))).trans k2
  refine ⟨.tuple #[.slice A m c, .int .i64 n], ?_, hR ?_ (fun k hk => World.putObj_heap_other hk)⟩
  · simp [results, Tryd.f32, go_sem, e1, e2, h4, h5, Array.getD_eq_getD_getElem?]
  · exact pw_below_grown k3 (some D) k3.size (grownBy_putObj' w5 D _) (fun k e => by cases e; omega)
theorem PI.start {w w1 w2 : World} {s : ByteArray} (hB : Below w.heap.size w w1) (h4 : w1.heap[w.heap.size]? = some (.cells #[.slice none 0 0] 22 (0, 0))) (h5 : w1.heap[w.heap.size + 1]? = some (.cells #[.int .i64 0] 25 (0, 0)))
    (hw : w2 = (w1.alloc (.cells #[.slice none 0 0] 22)).alloc (.cells #[.string s] 9)) : PI w w1.heap.size w2.heap.size [] w2 := by
  subst hw
  have := blk_lt h5
  exact ⟨below_alloc (below_alloc hB _) _, blk_alloc (blk_alloc h4 _) _, blk_alloc (blk_alloc h5 _) _, ⟨_, blk_alloc (blk_new _ _) _, Kd.N_nil _ _ _ _ _⟩, this, by simp; omega, Nat.le_refl _⟩
theorem st_start {w1 w2 : World} {s : List UInt8} {xs : List ByteArray} (hw : w2 = (w1.alloc (.cells #[.slice none 0 0] 22)).alloc (.cells #[.string ⟨s.toArray⟩] 9)) (hx : lines.LinesOf xs s) (hs : s.length ≤ 1000) : lines.St (w1.heap.size + 1) xs [] w2 := by
  subst hw
  refine ⟨⟨s.toArray⟩, ?_, by simpa using hx, by simp only [ByteArray.size_mk', List.size_toArray]; omega⟩
  have := blk_new (w1.alloc (.cells #[.slice none 0 0] 22)) (.cells #[.string ⟨s.toArray⟩] 9)
  rwa [World.size_alloc] at this
theorem St.own {Bs D : Nat} {xs : List ByteArray} (h : Bs < D) : rng.LoopOwn D (lines.St Bs xs) := by
  rintro pre W W' row ⟨s, h1, h2, h3⟩ hg hr
  exact ⟨s, blk_grown h1 hg (fun e => by have := hr Bs e.symm; omega), h2, h3⟩

set_option maxRecDepth 100000 in
set_option maxHeartbeats 2000000 in
theorem parse_any (t : ByteArray) (s : List UInt8) (A : Option Addr) (c : Nat) (w : World) (m : Int) (xs : List ByteArray) (hx : lines.LinesOf xs s) (h30 : xs.length ≤ 30) (hcol : ∀ x ∈ xs, 2 ≤ (wordsOf x).length ∧ (wordsOf x).length = Lib.countB (cutLine x) colon + 1 ∧ (∀ y ∈ wordsOf x, y.size ≤ 1000) ∧ (wordsOf x).length ≤ 1000 ∧ x.size ≤ 1000)
    (hr : kb.byte.C w A s.length s) (hsz : s.length ≤ 1000) (hm : w.cell? ⟨1, 0, none⟩ = some (.int .i64 m)) (h0 : (tabWidth t == 0) = false) :
    Calls Tryd.prog 32 #[.string t, .slice A s.length c] w fun e w' => ∃ B cc, e = .returned (.tuple #[.slice B (parseP t s xs).1.length cc, .int .i64 (parseP t s xs).2]) ∧ (parseP t s xs).1.length ≤ cc ∧ kRow.C w' B (parseP t s xs).1.length (parseP t s xs).1 ∧ Below w.heap.size w w' := by
  refine (callsIn_wide (n := 0)).1 ?_
  refine callsIn_of_wp_marks Tryd.func32 rfl trivial ?_ rfl
  simp only [Tryd.ntmps32, List.size_toArray, List.length_cons, List.length_nil, Nat.reduceAdd, Nat.reduceSub, Array.replicate_succ, Array.replicate_zero, List.push_toArray, List.append_toArray, List.nil_append, List.cons_append]
  have hconv := fun W (h : Below w.heap.size w W) => kb.conv_string (c := c) (Kd.C_below hr h)
  obtain ⟨W0, hW0⟩ : ∃ W0, (w.alloc (.cells #[.slice none 0 0] 22)).alloc (.cells #[.int .i64 0] 25) = W0 := ⟨_, rfl⟩
  have hB0 : Below w.heap.size w W0 := by rw [← hW0]; exact below_alloc (below_alloc (Below.refl _ _) _) _
  have h40 : W0.heap[w.heap.size]? = some (.cells #[.slice none 0 0] 22 (0, 0)) := by rw [← hW0]; exact blk_alloc (blk_new _ _) _
  have h50 : W0.heap[w.heap.size + 1]? = some (.cells #[.int .i64 0] 25 (0, 0)) := by
    rw [← hW0]; have := blk_new (w.alloc (.cells #[.slice none 0 0] 22)) (.cells #[.int .i64 0] 25); rwa [World.size_alloc] at this
  gi_wp2_with (first
    | (refine ⟨trivial, rfl, ?_⟩; gi_at_call 34; refine CallsIn.mono (callsIn_wide.2 (width_any t W0)) ?_; rintro e w1 ⟨rfl, hb⟩; have hB1 := below_step hB0 hb; have h41 := blk_below h40 hb; have h51 := blk_below h50 hb; have hconv2 := hconv _ (below_alloc hB1 (.cells #[.slice none 0 0] 22)))
    | (refine ⟨trivial, rfl, ?_⟩; gi_at_call 64; refine CallsIn.mono (callsIn_wide.2 (lines.lines_any _ _)) ?_; rintro e w2 ⟨rfl, hw2⟩;
       replace hw2 := hw2.symm;
       have hPI : PI w w1.heap.size w2.heap.size [] w2 := PI.start hB1 h41 h51 hw2.symm;
       have hSt : lines.St (w1.heap.size + 1) xs [] w2 := st_start hw2.symm hx hsz; have hsz2 : w2.heap.size = w1.heap.size + 2 := by rw [← hw2]; simp))
  have eg : ∀ args W, (callFunc 83 args).run Tryd.prog W = .ok (.enter 83 args) W := enters_of Tryd.func83 (by kernel_rfl) rfl
  refine rng.range_own (gf := 83) (lb := #[.pointer (some ⟨w1.heap.size + 1, 0, none⟩)]) (encs := fun x : ByteArray => #[.string x]) (xs := xs) rfl eg (lines.lines_iter (w1.heap.size + 1) xs) (fun _ => rfl)
    (fun pre W => PI w w1.heap.size w2.heap.size (pre.map rowOf) W) (fun _ _ => False) (fun pre W W' row h hg hr => PI.own _ W W' row h hg hr) (St.own (by omega)) (fun _ _ _ _ h _ _ => h) (fun pre A B h hs => h.stp hs (by omega) (by omega)) (fun A B h => h.keeps) hPI hSt
    (fun x => { tmps := #[.string t, .slice A s.length c, undef, undef, .pointer (some ⟨w.heap.size, 0, none⟩), .pointer (some ⟨w.heap.size + 1, 0, none⟩), .pointer (some ⟨w1.heap.size, 0, none⟩), .string x, undef, undef, undef, .string t, .int .i64 (tabWidth t), .bool false, .slice A s.length c, .string ⟨s.toArray⟩, .func (.func 83) #[] #[.pointer (some ⟨w1.heap.size + 1, 0, none⟩)], .string x, undef, undef, undef, undef, undef, undef, undef, undef, undef, undef, undef, undef, undef, undef, undef, undef, undef, undef, undef, undef, undef, undef, undef, undef, undef, undef, undef, undef, undef, undef, undef, undef], defers := [] }) ?_ ?_ ?_ (fun _ _ _ _ h _ => h.elim)
  · intro l x W K hK
    dsimp only at hK ⊢
    simp only [rng.zip_one, List.setIfInBounds_toArray, List.set_cons_zero, List.set_cons_succ]
    gi_wp2
    exact hK
  · intro l pre x W hpre hDW hI hS
    dsimp only at hI ⊢
    obtain ⟨v, h6, hN⟩ := hI.x6
    obtain ⟨A1, c1, rfl⟩ := Kd.N_slice hN
    rw [List.length_map] at h6 hN
    have z6 : W.cell? ⟨w1.heap.size, 0, none⟩ = some (.slice A1 pre.length c1) := (blk_cell h6 0).trans rfl
    have hlen : pre.length < 30 := by
      obtain ⟨r, hr'⟩ := hpre
      have := congrArg List.length hr'
      simp at this
      omega
    have hd : decide (32 < ((pre.length : Nat) : Int)) = false := decide_eq_false (by omega)
    obtain ⟨y0, ys, hro, hys, hyn, hsplit⟩ := split_line (hcol x (by obtain ⟨r, rfl⟩ := hpre; simp)) (m := m)
    have hxs := (hcol x (by obtain ⟨r, rfl⟩ := hpre; simp)).2.2.2.2
    have hm2 : W.cell? ⟨1, 0, none⟩ = some (.int .i64 m) := pw_cell_below hI.bel hm
    have htr : (⟨(Lib.trimSuffix x.data.toList [10]).toArray⟩ : ByteArray).size ≤ 1000 := by
      simp only [ByteArray.size_mk', List.size_toArray]
      have := trim_len x.data.toList [10]
      rw [data_length] at this
      omega
    gi_wp2_with (first
      | (refine ⟨trivial, rfl, ?_⟩; gi_at_call 66; refine CallsIn.mono ((reg.wd_round l).calls (Tryd.strings_TrimSuffix x ⟨#[10]⟩ _ (by omega))) ?_; rintro e w3 ⟨rfl, hw3⟩; replace hw3 := hw3.symm; subst hw3)
      | (refine ⟨trivial, rfl, ?_⟩; gi_at_call 65; refine CallsIn.mono ((reg.wd_round l).calls (hsplit _ hm2)) ?_; rintro e w4 ⟨rfl, hw4⟩; replace hw4 := hw4.symm))
    have zy : w4.cell? ⟨W.heap.size, 0, none⟩ = some (.string y0) := by rw [← hw4]; exact (blk_cell (blk_new _ _) 0).trans rfl
    have z7 : w4.cell? ⟨w1.heap.size, 0, none⟩ = some (.slice A1 pre.length c1) := by rw [← hw4]; exact pw_cell_below (below_alloc (Below.refl _ _) _) z6
    clear hsplit
    have hne : ¬ ys = [] := by intro e; rw [e] at hys; simp at hys
    have hB4 : Below W.heap.size W w4.drew := by rw [← hw4]; exact below_drew (below_alloc (Below.refl _ _) _)
    have hblk : w4.drew.heap[W.heap.size]? = some (.cells ((y0 :: ys).map Value.string).toArray 9 (0, 0)) := by rw [← hw4]; exact blk_new _ _
    have HC := Lib.hid (Tryd.slices_Clone_string W.heap.size 1 ys.length ys.length ys w4.drew (Nat.le_refl _) (by omega) (fun j hj => (blk_cell hblk (1 + j)).trans (by rw [Nat.add_comm]; simp [List.getD_eq_getElem?_getD, hj])))
    refine reg.region_chain [false, false, false, false, false, false, true, true, true, true, true] (T := fun W' => W'.cell? ⟨w1.heap.size, 0, none⟩ = some (.slice A1 pre.length c1) ∧ W'.cell? ⟨W.heap.size, 0, none⟩ = some (.string y0)) (reg.wd_round l) (by kernel_rfl) rfl (by kernel_rfl) ?_
    dsimp only [reg.splitQ, reg.splitM]
    iterate 6
      apply reg.read_cons
      case h =>
        intro W' hT
        obtain ⟨y6, yy⟩ := hT
        go_wp2
        exact ⟨rfl, _, rfl, rfl, rfl⟩
      try simp only [Act.put, List.setIfInBounds_toArray, List.set_cons_zero, List.set_cons_succ]
    apply reg.read_nil
    refine reg.chain_cons ⟨z7, zy⟩ ?_
    go_wp2_with (go_at_call 67; refine HC.out.mono ?_; rintro e w5 ⟨v', rfl, hown, hvn, hb5⟩)
    obtain ⟨A2, c2, rfl⟩ := own_slice hown
    have h67 : w5.heap[w1.heap.size]? = some (.cells #[.slice A1 pre.length c1] 22 (0, 0)) := blk_below (blk_below h6 hB4) hb5
    have hT5 : w5.cell? ⟨w1.heap.size, 0, none⟩ = some (.slice A1 pre.length c1) ∧ w5.cell? ⟨W.heap.size, 0, none⟩ = some (.string y0) := ⟨pw_cell_below hb5 z7, pw_cell_below hb5 zy⟩
    refine ⟨rfl, _, rfl, ?_⟩
    try simp only [Act.put, List.setIfInBounds_toArray, List.set_cons_zero, List.set_cons_succ]
    refine reg.chain_cons hT5 ?_
    go_wp2
    refine ⟨rfl, _, rfl, ?_⟩
    try simp only [Act.put, List.setIfInBounds_toArray, List.set_cons_zero, List.set_cons_succ]
    refine reg.chain_cons hT5 ?_
    go_wp2
    refine ⟨rfl, _, rfl, ?_⟩
    try simp only [Act.put, List.setIfInBounds_toArray, List.set_cons_zero, List.set_cons_succ]
    refine reg.chain_cons ⟨pw_cell_below (below_alloc (Below.refl _ _) _) hT5.1, pw_cell_below (below_alloc (Below.refl _ _) _) hT5.2⟩ ?_
    have hN5 : Kd.N kRow 52 w5 (w2.heap.size + 2) (fun k => w2.heap.size + 2 ≤ k) (.slice A1 pre.length c1) (pre.map rowOf) := Kd.N_below (Kd.N_below hN hB4) hb5
    have hold : ∀ k, (Value.slice A1 pre.length c1).ownBlock = some k → k < W.heap.size := fun k hk => Kd.N_lt hN k hk
    have hD2 : w2.heap.size + 2 ≤ w4.drew.heap.size := Nat.le_trans hDW hB4.size
    rw [List.take_of_length_le (Nat.le_refl _)] at hown
    have hF := Kd.V_F (Kd.R_V (base' := 0) (Kd.R_of_own (enc := Value.string) (h1 := fun _ => rfl) (ok := fun k => w4.drew.heap.size ≤ k) (xs := ys) hown (fun k hk => own_base hown k hk)))
    have hFK : Kd.FK kRow w5 (fun k => w4.drew.heap.size ≤ k) (rowOf x) [.string y0, .slice A2 ys.length c2] := by rw [hro]; exact fk_row (r := ⟨y0, ys⟩) (own_cap hown) hF
    refine Kd.N_append kRow (w2.heap.size + 2) rfl (.tmp 24) (.tmp 32) 22 52 (.agg #[.string ⟨#[]⟩, .slice none 0 0]) 40 rfl Tryd.underlying22 (by kernel_rfl) rfl (by decide) (by decide) (.slice A1 pre.length c1) (pre.map rowOf) (rowOf x) [.string y0, .slice A2 ys.length c2]
      (fun k => w2.heap.size + 2 ≤ k) (fun k => w4.drew.heap.size ≤ k) rfl rfl hFK (fun k hk => ⟨Nat.le_trans hD2 hk, fun e => by have := hold k e.symm; have := hB4.size; omega⟩) (fun k hk => by have := hb5.size; omega) hN5 (w0 := w5) (Below.refl _ _) (by have := hb5.size; omega) (by rw [List.length_map]; omega) ?_
    intro v1 w7 hN7 hB7 hg7 hat
    obtain ⟨A7, c7, rfl⟩ := Kd.N_slice hN7
    generalize hl7 : (pre.map rowOf ++ [rowOf x]).length = n7 at *
    refine ⟨rfl, _, rfl, ?_⟩
    try simp only [Act.put, List.setIfInBounds_toArray, List.set_cons_zero, List.set_cons_succ]
    obtain ⟨hPI2, hKO, hset, h77⟩ := hI.round hDW hN h6 (below_step hB4 hb5) hg7 hN7
    have zz : w7.cell? ⟨w1.heap.size, 0, none⟩ = some (.slice A1 pre.length c1) := (blk_cell h77 0).trans rfl
    have zf : w7.frozen? ⟨w1.heap.size, 0, none⟩ = false := blk_frozen h77 0
    have zy7 : w7.cell? ⟨W.heap.size, 0, none⟩ = some (.string y0) := cell_grown hg7 hT5.2 (fun e => by have := hold _ e.symm; simp at this)
    have hSt2 : lines.St (w1.heap.size + 1) xs (pre ++ [x]) (w7.setCell ⟨w1.heap.size, 0, none⟩ (.slice A7 n7 c7)) := by
      obtain ⟨s, q1, q2, q3⟩ := hS
      exact ⟨s, hset _ _ (by omega) (by omega) q1, q2, q3⟩
    refine reg.chain_cons ⟨zz, zy7⟩ ?_
    go_wp2
    refine ⟨rfl, undef, rfl, ?_⟩
    try simp only [Act.put, List.setIfInBounds_toArray, List.set_cons_zero, List.set_cons_succ]
    apply reg.chain_nil
    exact ⟨hKO, hSt2, by dsimp only; rw [List.map_append]; exact hPI2⟩
  · intro D W hD hI hK
    have HD := Lib.hid hD
    clear hD
    dsimp only at hI ⊢
    obtain ⟨v, h6, hN⟩ := hI.x6
    obtain ⟨A1, c1, rfl⟩ := Kd.N_slice hN
    obtain ⟨_, hc1, hC⟩ := Kd.N_reads' hN
    generalize hrows : xs.map rowOf = rows at *
    have hsm : ∀ r ∈ rows, SmallRow r := by
      intro r hr'
      rw [← hrows] at hr'
      obtain ⟨x, hx', rfl⟩ := List.mem_map.1 hr'
      exact small_row (hcol x hx').2.2.1
    have hno : ¬((printP t (xs.map rowOf)).2 = 0 ∧ (printP t (xs.map rowOf)).1 = s) → parseP t s xs = ([], 51) := fun h => by unfold parseP; rw [if_neg h]
    have hPR := Lib.hid (print_any t rows A1 c1 W hsm hC hc1)
    have HI := Lib.hid hI
    have z6 : W.cell? ⟨w1.heap.size, 0, none⟩ = some (.slice A1 rows.length c1) := (blk_cell h6 0).trans rfl
    by_cases hp0 : (printP t rows).2 = 0
    · have hd : ((printP t rows).2 != 0) = false := by simpa using hp0
      by_cases hsame : (printP t rows).1 = s
      · have hq : ((printP t rows).1 == s) = true := by rw [hsame]; simp
        have hyes : parseP t s xs = (rows, 0) := by unfold parseP; rw [hrows, if_pos ⟨hp0, hsame⟩]
        have HN := Lib.hid hN
        clear hsame hN hC
        gi_wp2_with (refine ⟨trivial, rfl, ?_⟩; gi_at_call 9; refine CallsIn.mono (callsIn_wide.2 hPR.out) ?_; rintro e w3 ⟨B, cc, rfl, hcc, hB3, hb3⟩
                     have hI3 := HI.out.below hb3
                     have y1 := kb.conv_string (c := cc) hB3
                     have y2 := hconv w3 hI3.bel
                     have z63 := pw_cell_below hb3 z6
                     obtain ⟨w4, hw4, g1, g2, g3, g4, g5⟩ := hI3.two (.slice A1 rows.length c1)
                     obtain ⟨w5, hw5, k1, k2, k3, k4, k5⟩ := g5 0
                     have hK5 := (k5 D (by have := hI3.lt; have := HD.out; omega)).trans (blk_below hK hb3)
                     clear hPR)
        refine PI.out (by have := hI.lt; have := HD.out; omega) k1 ⟨_, _, _, rfl⟩ k2 k3 hK5 rfl rfl (fun hb hk => ?_)
        rw [hyes]
        refine ⟨A1, c1, rfl, hc1, ?_, hb⟩
        refine (Kd.N_reads' (Kd.N_step (Kd.N_below HN.out hb3) (fun k hk2 _ => ?_))).2.2
        have hlt := hI.lt
        have hD := HD.out
        rw [hk k (by omega), k5 k (by omega)]
      · have hq : ((printP t rows).1 == s) = false := by simpa using hsame
        gi_wp2_with (refine ⟨trivial, rfl, ?_⟩; gi_at_call 9; refine CallsIn.mono (callsIn_wide.2 hPR.out) ?_; rintro e w3 ⟨B, cc, rfl, hcc, hB3, hb3⟩
                     have hI3 := HI.out.below hb3
                     have y1 := kb.conv_string (c := cc) hB3
                     have y2 := hconv w3 hI3.bel
                     obtain ⟨w4, hw4, g1, g2, g3, g4, g5⟩ := hI3.two (.slice none 0 0)
                     obtain ⟨w5, hw5, k1, k2, k3, k4, k5⟩ := g5 51
                     have hK5 := (k5 D (by have := hI3.lt; have := HD.out; omega)).trans (blk_below hK hb3)
                     clear hPR)
        refine PI.out (by have := hI.lt; have := HD.out; omega) k1 ⟨_, _, _, rfl⟩ k2 k3 hK5 rfl rfl (fun hb _ => ?_)
        rw [hno (by rw [hrows]; exact fun h => hsame h.2)]
        exact ⟨none, 0, rfl, Nat.zero_le _, ⟨rfl, by simp, fun h => by simp at h⟩, hb⟩
    · have hd : ((printP t rows).2 != 0) = true := by simpa using hp0
      gi_wp2_with (refine ⟨trivial, rfl, ?_⟩; gi_at_call 9; refine CallsIn.mono (callsIn_wide.2 hPR.out) ?_; rintro e w3 ⟨B, cc, rfl, hcc, hB3, hb3⟩
                   have hI3 := HI.out.below hb3
                   obtain ⟨w4, hw4, g1, g2, g3, g4, g5⟩ := hI3.two (.slice none 0 0)
                   obtain ⟨w5, hw5, k1, k2, k3, k4, k5⟩ := g5 51
                   have hK5 := (k5 D (by have := hI3.lt; have := HD.out; omega)).trans (blk_below hK hb3)
                   clear hPR)
      refine PI.out (by have := hI.lt; have := HD.out; omega) k1 ⟨_, _, _, rfl⟩ k2 k3 hK5 rfl rfl (fun hb _ => ?_)
      rw [hno (by rw [hrows]; exact fun h => hp0 h.1)]
      exact ⟨none, 0, rfl, Nat.zero_le _, ⟨rfl, by simp, fun h => by simp at h⟩, hb⟩
end Go.Proofs.YtmjmcmohicjfkaaDoor.tab
