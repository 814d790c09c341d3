import Derived.Orders
import Derived.RegionTactic
import Derived.WalkKit
import Derived.Below
/-
  A region that draws its order, walked once, in the order of the text: each operation yields a value that does not hang on the world, as long as the world meets S; S is kept by each. What two operations that may come up in either order look at and write is apart: asked of the region by the kernel.
-/
namespace Go.Proofs.YtmjmcmohicjfkaaDoor.reg
open Go.RowKit

/-- e of i is an edge that binds. -/
def edgesOf (o : Oper) : List Nat := (o.after.toList.filter (Region.binds .any)).map (·.on)
/-- B d: what d waits for, through others too. -/
def closed (ops : Array Oper) (B : Array Nat) : Bool :=
  (List.range ops.size).all fun d => (List.range ops.size).all fun i => !(B.getD d 0).testBit i || (match ops[d]? with | some o => (edgesOf o).any fun e => e == i || (B.getD e 0).testBit i | none => false)
def pairsOk (ops : Array Oper) (B : Array Nat) : Bool :=
  (List.range ops.size).all fun j => (List.range j).all fun i => (B.getD j 0).testBit i || (match ops[i]?, ops[j]? with | some x, some y => x.apart ops y | _, _ => false)
def edgesDown (ops : Array Oper) : Bool := (List.range ops.size).all fun d => match ops[d]? with | some o => (edgesOf o).all fun e => decide (e < d) | none => false
def chk (ops : Array Oper) : Bool := Region.noSelect ops && edgesDown ops && closed ops (Region.before ops) && pairsOk ops (Region.before ops)

theorem all_range {n : Nat} {p : Nat → Bool} (h : (List.range n).all p = true) {i : Nat} (hi : i < n) : p i = true := List.all_eq_true.1 h i (List.mem_range.2 hi)

section
variable {P : Program} {ops : Array Oper} {Q : Exit → Act → World → Prop} {S : World → Prop}

/-- Behind one operation. -/
structure Step (S : World → Prop) (A : Act) (e : Exit) (a1 : Act) (w1 : World) : Prop where
  e : e = .normal
  a : a1 = A
  s : S w1
/-- The operations one behind the other, each in any world that meets S. -/
def SeqS (P : Program) (ops : Array Oper) (Q : Exit → Act → World → Prop) (S : World → Prop) : List Oper → Act → Prop
  | [], a => ∀ w, S w → Q .normal a w
  | o :: rest, a => ∃ v, (∀ w, S w → wpList P ops (Step S (a.put o.dst v)) [o] a w) ∧ SeqS P ops Q S rest (a.put o.dst v)

theorem seq_cons {o : Oper} {rest : List Oper} {a : Act} {v : Value} (h : ∀ w, S w → wpList P ops (Step S (a.put o.dst v)) [o] a w) (r : SeqS P ops Q S rest (a.put o.dst v)) : SeqS P ops Q S (o :: rest) a := ⟨v, h, r⟩
def dstOf (ops : Array Oper) (i : Nat) : Option Tmp := (ops[i]?).bind (·.dst)
/-- The frame where those of L are done (of the first n). -/
def fr (ops : Array Oper) (V : Nat → Value) (a : Act) (L : Nat → Bool) : Nat → Act
  | 0 => a
  | n + 1 => if L n then (fr ops V a L n).put (dstOf ops n) (V n) else fr ops V a L n

theorem put_size (a : Act) (d : Option Tmp) (v : Value) : (a.put d v).tmps.size = a.tmps.size := by cases d <;> simp [Act.put]
theorem put_def (a : Act) (d : Option Tmp) (v : Value) : (a.put d v).defers = a.defers := by cases d <;> rfl
theorem fr_size (V : Nat → Value) (a : Act) (L : Nat → Bool) : ∀ n, (fr ops V a L n).tmps.size = a.tmps.size ∧ (fr ops V a L n).defers = a.defers
  | 0 => ⟨rfl, rfl⟩
  | n + 1 => by
    unfold fr
    split
    · rw [put_size, put_def]; exact fr_size V a L n
    · exact fr_size V a L n
theorem put_at {a : Act} {d : Option Tmp} {v : Value} {t : Tmp} (h : d ≠ some t) : (a.put d v).tmps[t]? = a.tmps[t]? := by
  cases d with
  | none => rfl
  | some d => simp [Act.put, Array.getElem?_setIfInBounds_ne (show d ≠ t from fun e => h (by rw [e]))]
theorem put_same {a b : Act} {d : Option Tmp} {v : Value} {t : Tmp} (hs : a.tmps.size = b.tmps.size) (h : a.tmps[t]? = b.tmps[t]?) : (a.put d v).tmps[t]? = (b.put d v).tmps[t]? := by
  by_cases hd : d = some t
  · subst hd
    simp [Act.put, Array.getElem?_setIfInBounds, hs]
  · rw [put_at hd, put_at hd, h]
theorem fr_at (V : Nat → Value) (a : Act) {L L' : Nat → Bool} {t : Tmp} : ∀ n, (∀ j, j < n → L j ≠ L' j → dstOf ops j ≠ some t) → (fr ops V a L n).tmps[t]? = (fr ops V a L' n).tmps[t]?
  | 0, _ => rfl
  | n + 1, h => by
    have ih := fr_at V a n (fun j hj => h j (by omega))
    have hs : (fr ops V a L n).tmps.size = (fr ops V a L' n).tmps.size := by rw [(fr_size V a L n).1, (fr_size V a L' n).1]
    have hn := h n (by omega)
    unfold fr
    by_cases h1 : L n = true <;> by_cases h2 : L' n = true
    · rw [if_pos h1, if_pos h2]; exact put_same hs ih
    · rw [if_pos h1, if_neg h2, put_at (hn (by rw [h1]; exact fun e => h2 e.symm))]; exact ih
    · rw [if_neg h1, if_pos h2, put_at (hn (by rw [h2]; exact h1))]; exact ih
    · rw [if_neg h1, if_neg h2]; exact ih
theorem fr_same (V : Nat → Value) (a : Act) {L L' : Nat → Bool} : ∀ n, (∀ j, j < n → L j = L' j) → fr ops V a L n = fr ops V a L' n
  | 0, _ => rfl
  | n + 1, h => by
    unfold fr
    rw [h n (by omega), fr_same V a n (fun j hj => h j (by omega))]
def up (L : Nat → Bool) (i : Nat) : Nat → Bool := fun j => if j = i then true else L j
theorem up_mono {L : Nat → Bool} {i e : Nat} (h : L e = true) : up L i e = true := by unfold up; split <;> first | rfl | exact h
theorem fr_up (V : Nat → Value) (a : Act) {L : Nat → Bool} {i : Nat} (hi : L i = false) : ∀ n, i < n → (∀ j, i < j → j < n → L j = true → ∀ d, dstOf ops i = some d → dstOf ops j ≠ some d) → fr ops V a (up L i) n = (fr ops V a L n).put (dstOf ops i) (V i)
  | 0, h, _ => by omega
  | n + 1, h, hap => by
    by_cases e : i = n
    · subst e
      unfold fr
      rw [if_pos (by simp [up]), if_neg (by rw [hi]; simp)]
      rw [fr_same V a (L' := L) i (fun j hj => by show up L i j = L j; unfold up; rw [if_neg (by omega)])]
    · have ih := fr_up V a hi n (by omega) (fun j h1 h2 => hap j h1 (by omega))
      have hu : up L i n = L n := by simp [up]; omega
      unfold fr
      rw [hu]
      by_cases hL : L n = true
      · rw [if_pos hL, if_pos hL, ih]
        exact Act.put_comm _ _ _ (hap n (by omega) (by omega) hL)
      · rw [if_neg hL, if_neg hL, ih]
theorem fr_upto (V : Nat → Value) (a : Act) (n : Nat) : ∀ m, n ≤ m → fr ops V a (fun j => decide (j < n)) m = fr ops V a (fun _ => true) n
  | 0, h => by
    obtain rfl : n = 0 := by omega
    rfl
  | m + 1, h => by
    by_cases e : n = m + 1
    · subst e
      exact fr_same V a (m + 1) (fun j hj => by simp; omega)
    · have h1 : fr ops V a (fun j => decide (j < n)) (m + 1) = fr ops V a (fun j => decide (j < n)) m := by
        show (if decide (m < n) = true then _ else _) = _
        rw [if_neg (by simp; omega)]
      rw [h1]
      exact fr_upto V a n m (by omega)

/-- The values and the steps, out of SeqS. -/
theorem seq_vals : ∀ (l : List Oper) (a : Act), SeqS P ops Q S l a → ∃ V : Nat → Value, ∃ A : Nat → Act, A 0 = a ∧ (∀ i o, l[i]? = some o → A (i + 1) = (A i).put o.dst (V i) ∧ ∀ w, S w → wpList P ops (Step S ((A i).put o.dst (V i))) [o] (A i) w) ∧ ∀ w, S w → Q .normal (A l.length) w
  | [], a, h => ⟨fun _ => undef, fun _ => a, rfl, fun i o ho => by simp at ho, h⟩
  | o :: l, a, ⟨v, h1, h2⟩ => by
    obtain ⟨V, A, hA, hs, he⟩ := seq_vals l _ h2
    refine ⟨fun | 0 => v | i + 1 => V i, fun | 0 => a | i + 1 => A i, rfl, fun i o' ho => ?_, he⟩
    cases i with
    | zero =>
      simp at ho
      subst ho
      exact ⟨hA, h1⟩
    | succ i => exact hs i o' (by simpa using ho)

theorem put_eq_of {A A' : Act} {d : Option Tmp} {v u : Value} (hs : A'.tmps.size = A.tmps.size) (h : A.put d v = A.put d u) : A'.put d v = A'.put d u := by
  cases d with
  | none => rfl
  | some d =>
    simp only [Act.put, Act.mk.injEq, and_true] at h ⊢
    by_cases hd : d < A.tmps.size
    · have h1 := congrArg (fun x : Array Value => x[d]?) h
      simp [hd] at h1
      rw [h1]
    · rw [Array.setIfInBounds_eq_of_size_le (by rw [hs]; exact Nat.not_lt.1 hd), Array.setIfInBounds_eq_of_size_le (by rw [hs]; exact Nat.not_lt.1 hd)]

/-- The operation from another frame that says the same where it looks. -/
theorem step_congr {o : Oper} {A A' : Act} {w : World} {v : Value} {K : Act → World → Prop} (hsel : ∀ cs b, o.op ≠ .select cs b) (hlook : ∀ t ∈ o.looksAt ops, A'.tmps[t]? = A.tmps[t]?) (hs : A'.tmps.size = A.tmps.size) (_hd : A'.defers = A.defers)
    (h : wpList P ops (Step S (A.put o.dst v)) [o] A w) (hK : ∀ w1, S w1 → K (A'.put o.dst v) w1) :
    if Region.wanted o (yielded ops A'.tmps) = true then o.wp P A' w K Q else K (A'.put o.dst undef) w := by
  have heval : ∀ x ∈ o.op.operands, A'.eval x = A.eval x := by
    intro x hx
    cases x with
    | tmp t =>
      have := hlook t (List.mem_append_left _ (List.mem_filterMap.2 ⟨.tmp t, by simpa using hx, rfl⟩))
      simp [Act.eval, this]
    | _ => rfl
  have hw : Region.wanted o (yielded ops A'.tmps) = Region.wanted o (yielded ops A.tmps) := by
    unfold Region.wanted
    cases hg : o.guard with
    | none => rfl
    | some g =>
      obtain ⟨j, want⟩ := g
      have : yielded ops A'.tmps j = yielded ops A.tmps j := by
        unfold yielded
        cases hj : (ops[j]?).bind (·.dst) with
        | none => rfl
        | some t =>
          have := hlook t (List.mem_append_right _ (by simp [hg, hj]))
          simp [this]
      simp only [this]
  rw [hw]
  unfold wpList at h
  by_cases hwt : Region.wanted o (yielded ops A.tmps) = true
  · rw [if_pos hwt] at h ⊢
    rcases h with h | ⟨_, _, _, h⟩
    · unfold Oper.wp at h ⊢
      rw [execOp_congr o hsel heval]
      generalize (execOp A.eval o).run P w = r at h ⊢
      cases r with
      | ok n w' =>
        cases n with
        | value u =>
          obtain ⟨_, h1, h2⟩ := h
          show K (A'.put o.dst u) w'
          rw [put_eq_of hs h1]; exact hK _ h2
        | skip =>
          obtain ⟨_, h1, h2⟩ := h
          show K (A'.put o.dst undef) w'
          rw [put_eq_of hs h1]; exact hK _ h2
        | defer d =>
          obtain ⟨_, h1, _⟩ := h
          have := congrArg Act.defers h1
          rw [put_def, put_def] at this
          exact absurd this (by simp)
        | enter f args =>
          refine Calls.mono h (fun e w'' he => ?_)
          cases e with
          | returned u =>
            obtain ⟨_, h1, h2⟩ := he
            show K (A'.put o.dst u) w''
            rw [put_eq_of hs h1]; exact hK _ h2
          | panicked c => exact absurd he.e (by simp)
          | outgrown =>
            obtain ⟨_, _, he⟩ := he
            exact absurd he.e (by simp)
        | row row args =>
          refine Rows.mono h (fun u w'' he => ?_)
          obtain ⟨_, h1, h2⟩ := he
          show K (A'.put o.dst u) w''
          rw [put_eq_of hs h1]; exact hK _ h2
        | _ => exact h.elim
      | halt x w' =>
        cases x with
        | panic u => exact absurd h.e (by simp)
        | _ => exact h.elim
    · exact absurd h.e (by simp)
  · rw [if_neg hwt] at h ⊢
    obtain ⟨_, h1, h2⟩ := h
    rw [put_eq_of hs h1]; exact hK _ h2

theorem filter_le {p q : Nat → Bool} (h : ∀ x, q x = true → p x = true) : ∀ l : List Nat, (l.filter q).length ≤ (l.filter p).length
  | [] => by simp
  | x :: l => by
    have ih := filter_le h l
    simp only [List.filter_cons]
    by_cases hq : q x = true
    · rw [if_pos hq, if_pos (h x hq)]; simp only [List.length_cons]; omega
    · rw [if_neg hq]
      split
      · simp only [List.length_cons]; omega
      · exact ih
theorem filter_lt {p q : Nat → Bool} (h : ∀ x, q x = true → p x = true) {i : Nat} (hp : p i = true) (hq : q i = false) : ∀ l : List Nat, i ∈ l → (l.filter q).length < (l.filter p).length
  | [], hi => by cases hi
  | x :: l, hi => by
    have hle := filter_le h l
    simp only [List.filter_cons]
    by_cases e : x = i
    · subst e
      rw [if_pos hp, if_neg (by rw [hq]; simp)]
      simp only [List.length_cons]; omega
    · have ih := filter_lt h hp hq l (by
        rcases List.mem_cons.1 hi with h1 | h1
        · exact absurd h1.symm e
        · exact h1)
      by_cases hqx : q x = true
      · rw [if_pos hqx, if_pos (h x hqx)]; simp only [List.length_cons]; omega
      · rw [if_neg hqx]
        split
        · simp only [List.length_cons]; omega
        · exact ih

theorem getD_set {l : Array Bool} {i j : Nat} (d : Bool) (hi : i < l.size) : (l.setIfInBounds i true).getD j d = if j = i then true else l.getD j d := by
  by_cases e : j = i
  · subst e
    simp [Array.getD, hi]
  · rw [if_neg e, getD_set_ne d (fun h => e h.symm)]

/-- From where L is done, whatever comes up. -/
theorem any_go (V : Nat → Value) (A : Nat → Act) (a0 : Act) (hc : chk ops = true)
    (hA : ∀ i, i ≤ ops.size → A i = fr ops V a0 (fun _ => true) i)
    (hst : ∀ i o, ops[i]? = some o → ∀ w, S w → wpList P ops (Step S ((A i).put o.dst (V i))) [o] (A i) w)
    (hend : ∀ w, S w → Q .normal (A ops.size) w) :
    ∀ (fuel : Nat) (L : Nat → Bool) (listed : Array Bool) (w : World), listed.size = ops.size → (∀ j, j < ops.size → ∀ d, listed.getD j d = L j) →
      (∀ j, j < ops.size → L j = true → ∀ o, ops[j]? = some o → ∀ e ∈ edgesOf o, L e = true) → ((List.range ops.size).filter fun j => !L j).length ≤ fuel → S w →
      wpAny P .any ops Q fuel listed (fr ops V a0 L ops.size) w := by
  simp only [chk, Bool.and_eq_true] at hc
  obtain ⟨⟨⟨hsel, hdown⟩, hclosed⟩, hpairs⟩ := hc
  have down : ∀ d o, ops[d]? = some o → ∀ e ∈ edgesOf o, e < d := by
    intro d o ho e he
    have hd : d < ops.size := (Array.getElem?_eq_some_iff.1 ho).1
    have := all_range hdown hd
    rw [ho] at this
    simpa using List.all_eq_true.1 this e he
  -- what d waits for is done, where d's own edges are
  have waits : ∀ (L : Nat → Bool), (∀ j, j < ops.size → L j = true → ∀ o, ops[j]? = some o → ∀ e ∈ edgesOf o, L e = true) →
      ∀ d, d < ops.size → (∀ o, ops[d]? = some o → ∀ e ∈ edgesOf o, L e = true) → ∀ i, i < ops.size → ((Region.before ops).getD d 0).testBit i = true → L i = true := by
    intro L hL d
    induction d using Nat.strongRecOn with
    | ind d ih =>
      intro hd he i hi hb
      have h1 := all_range (all_range hclosed hd) hi
      rw [hb] at h1
      simp only [Bool.not_true, Bool.false_or] at h1
      cases ho : ops[d]? with
      | none => rw [ho] at h1; cases h1
      | some o =>
        rw [ho] at h1
        obtain ⟨e, hee, h2⟩ := List.any_eq_true.1 h1
        have hLe := he o ho e hee
        have hed := down d o ho e hee
        rw [Bool.or_eq_true] at h2
        rcases h2 with h2 | h2
        · rw [beq_iff_eq] at h2; rw [← h2]; exact hLe
        · exact ih e hed (by omega) (fun o' ho' => hL e (by omega) hLe o' ho') i hi h2
  have apart : ∀ i j x y, i < j → ops[i]? = some x → ops[j]? = some y → ((Region.before ops).getD j 0).testBit i = false → x.apart ops y = true := by
    intro i j x y hij hx hy hb
    have hj : j < ops.size := (Array.getElem?_eq_some_iff.1 hy).1
    have := all_range (all_range hpairs hj) hij
    rw [hb, hx, hy] at this
    simpa using this
  intro fuel
  induction fuel with
  | zero =>
    intro L listed w hsz hl hL hf hS
    have hall : ∀ j, j < ops.size → L j = true := by
      intro j hj
      cases h : L j with
      | true => rfl
      | false =>
        have : j ∈ (List.range ops.size).filter fun j => !L j := List.mem_filter.2 ⟨List.mem_range.2 hj, by simp [h]⟩
        have := List.length_pos_of_mem this
        omega
    have hr : Region.ready .any ops listed = [] := by
      apply List.filter_eq_nil_iff.2
      intro j hj
      have hj := List.mem_range.1 hj
      rw [hl j hj, hall j hj]
      simp
    refine ⟨hr, ?_⟩
    rw [fr_same V a0 (L' := fun _ => true) ops.size (fun j hj => hall j hj), ← hA _ (Nat.le_refl _)]
    exact hend w hS
  | succ fuel ihf =>
    intro L listed w hsz hl hL hf hS
    refine ⟨fun hr => ?_, fun i hi => ?_⟩
    · -- nothing may come up: all is done
      have hall : ∀ j, j < ops.size → L j = true := by
        intro j
        induction j using Nat.strongRecOn with
        | ind j ih =>
          intro hj
          cases h : L j with
          | true => rfl
          | false =>
            have : j ∈ Region.ready .any ops listed := mem_ready.2 ⟨by rw [hl j hj, h], _, Array.getElem?_eq_getElem hj, fun e he hb => by
              have hed := down j _ (Array.getElem?_eq_getElem hj) e.on (List.mem_map.2 ⟨e, List.mem_filter.2 ⟨by simpa using he, hb⟩, rfl⟩)
              rw [hl e.on (by omega)]
              exact ih e.on hed (by omega)⟩
            rw [hr] at this
            cases this
      rw [fr_same V a0 (L' := fun _ => true) ops.size (fun j hj => hall j hj), ← hA _ (Nat.le_refl _)]
      exact hend w hS
    · obtain ⟨hi0, o, ho, hed⟩ := mem_ready.1 hi
      have hin : i < ops.size := (Array.getElem?_eq_some_iff.1 ho).1
      rw [hl i hin] at hi0
      have hee : ∀ e ∈ edgesOf o, L e = true := by
        intro e he
        obtain ⟨ed, h1, rfl⟩ := List.mem_map.1 he
        obtain ⟨h1, h2⟩ := List.mem_filter.1 h1
        have := hed ed (by simpa using h1) h2
        have hlt := down i o ho ed.on (List.mem_map.2 ⟨ed, List.mem_filter.2 ⟨h1, h2⟩, rfl⟩)
        rwa [hl ed.on (by omega)] at this
      have hwait := waits L hL i hin (fun o' ho' => by rw [ho] at ho'; cases ho'; exact hee)
      -- j done and behind i, or not done and ahead of it: apart
      have hap : ∀ j y, ops[j]? = some y → j ≠ i → (L j ≠ decide (j < i)) → o.apart ops y = true ∨ y.apart ops o = true := by
        intro j y hy hne hd
        have hj : j < ops.size := (Array.getElem?_eq_some_iff.1 hy).1
        rcases Nat.lt_or_gt_of_ne hne with hlt | hgt
        · right
          refine apart j i y o hlt hy ho ?_
          cases hb : ((Region.before ops).getD i 0).testBit j with
          | false => rfl
          | true =>
            have := hwait j hj hb
            exact absurd (by rw [this]; simp [hlt]) hd
        · left
          refine apart i j o y hgt ho hy ?_
          cases hb : ((Region.before ops).getD j 0).testBit i with
          | false => rfl
          | true =>
            have hLj : L j = true := by
              cases h : L j with
              | true => rfl
              | false => exact absurd (by rw [h]; simp; omega) hd
            have := waits L hL j hj (fun o' ho' => hL j hj hLj o' ho') i hin hb
            rw [hi0] at this; cases this
      unfold wpOp
      rw [ho]
      have hsize : (fr ops V a0 L ops.size).tmps.size = (A i).tmps.size := by rw [hA i (by omega), (fr_size V a0 _ _).1, (fr_size V a0 _ _).1]
      have hdef : (fr ops V a0 L ops.size).defers = (A i).defers := by rw [hA i (by omega), (fr_size V a0 _ _).2, (fr_size V a0 _ _).2]
      have hlook : ∀ t ∈ o.looksAt ops, (fr ops V a0 L ops.size).tmps[t]? = (A i).tmps[t]? := by
        intro t ht
        rw [hA i (by omega), ← fr_upto V a0 i ops.size (by omega)]
        refine fr_at V a0 ops.size (fun j hj hd => ?_)
        have hne : j ≠ i := by
          rintro rfl
          rw [hi0] at hd
          simp at hd
        obtain ⟨y, hy⟩ : ∃ y, ops[j]? = some y := ⟨_, Array.getElem?_eq_getElem hj⟩
        intro hdt
        have hyd : y.dst = some t := by simpa [dstOf, hy] using hdt
        rcases hap j y hy hne hd with h | h
        · exact (Oper.apart_spec h).2.2 t hyd ht
        · exact (Oper.apart_spec h).1 t hyd ht
      have hup : fr ops V a0 (up L i) ops.size = (fr ops V a0 L ops.size).put o.dst (V i) := by
        have := fr_up (ops := ops) V a0 hi0 ops.size hin (fun j h1 h2 h3 d hd => by
          obtain ⟨y, hy⟩ : ∃ y, ops[j]? = some y := ⟨_, Array.getElem?_eq_getElem h2⟩
          have hod : o.dst = some d := by simpa [dstOf, ho] using hd
          have e : dstOf ops j = y.dst := by simp [dstOf, hy]
          rw [e]
          rcases hap j y hy (by omega) (by rw [h3]; simp; omega) with h | h
          · exact (Oper.apart_spec h).2.1 d hod
          · intro hyd; exact (Oper.apart_spec h).2.1 d hyd hod)
        rw [this]
        simp [dstOf, ho]
      have key := step_congr (Q := Q) (K := wpAny P .any ops Q fuel (listed.setIfInBounds i true)) (Region.noSelect_spec hsel i o · · ho) hlook hsize hdef (hst i o ho w hS) (fun w1 hS1 => by
        rw [← hup]
        refine ihf (up L i) _ w1 (by simp [hsz]) (fun j hj d => ?_) (fun j hj hLj o' ho' e he => ?_) ?_ hS1
        · rw [getD_set d (by omega), hl j hj]; rfl
        · by_cases hji : j = i
          · subst hji
            rw [ho] at ho'; cases ho'
            have := hee e he
            exact up_mono this
          · have hLj' : L j = true := by simpa [up, hji] using hLj
            exact up_mono (hL j hj hLj' o' ho' e he)
        · have hlen : ((List.range ops.size).filter fun j => !up L i j).length < ((List.range ops.size).filter fun j => !L j).length := by
            refine filter_lt (fun x hx => ?_) (by simp [hi0]) (by simp [up]) _ (List.mem_range.2 hin)
            by_cases hxi : x = i
            · subst hxi; simp [up] at hx
            · simpa [up, hxi] using hx
          omega)
      show if Region.wanted o (yielded ops (fr ops V a0 L ops.size).tmps) = true then _ else _
      split
      · rename_i hw; rw [if_pos hw] at key; exact .inl key
      · rename_i hw; rw [if_neg hw] at key; exact key

/-- .. the last one waits for all others, and ends it. -/
theorem any_last (V : Nat → Value) (A : Nat → Act) (a0 : Act) (hc : chk ops = true) (m : Nat) (hm : ops.size = m + 1) (hw : ((List.range m).all fun i => ((Region.before ops).getD m 0).testBit i) = true) (ol : Oper) (hol : ops[m]? = some ol)
    (hA : ∀ i, i ≤ m → A i = fr ops V a0 (fun _ => true) i)
    (hst : ∀ i o, i < m → ops[i]? = some o → ∀ w, S w → wpList P ops (Step S ((A i).put o.dst (V i))) [o] (A i) w)
    (hend : ∀ w, S w → wpList P ops Q [ol] (A m) w) :
    ∀ (fuel : Nat) (L : Nat → Bool) (listed : Array Bool) (w : World), listed.size = ops.size → (∀ j, j < ops.size → ∀ d, listed.getD j d = L j) →
      (∀ j, j < ops.size → L j = true → ∀ o, ops[j]? = some o → ∀ e ∈ edgesOf o, L e = true) → ((List.range ops.size).filter fun j => !L j).length ≤ fuel → L m = false → S w →
      wpAny P .any ops Q fuel listed (fr ops V a0 L ops.size) w := by
  simp only [chk, Bool.and_eq_true] at hc
  obtain ⟨⟨⟨hsel, hdown⟩, hclosed⟩, hpairs⟩ := hc
  have down : ∀ d o, ops[d]? = some o → ∀ e ∈ edgesOf o, e < d := by
    intro d o ho e he
    have hd : d < ops.size := (Array.getElem?_eq_some_iff.1 ho).1
    have := all_range hdown hd
    rw [ho] at this
    simpa using List.all_eq_true.1 this e he
  -- what d waits for is done, where d's own edges are
  have waits : ∀ (L : Nat → Bool), (∀ j, j < ops.size → L j = true → ∀ o, ops[j]? = some o → ∀ e ∈ edgesOf o, L e = true) →
      ∀ d, d < ops.size → (∀ o, ops[d]? = some o → ∀ e ∈ edgesOf o, L e = true) → ∀ i, i < ops.size → ((Region.before ops).getD d 0).testBit i = true → L i = true := by
    intro L hL d
    induction d using Nat.strongRecOn with
    | ind d ih =>
      intro hd he i hi hb
      have h1 := all_range (all_range hclosed hd) hi
      rw [hb] at h1
      simp only [Bool.not_true, Bool.false_or] at h1
      cases ho : ops[d]? with
      | none => rw [ho] at h1; cases h1
      | some o =>
        rw [ho] at h1
        obtain ⟨e, hee, h2⟩ := List.any_eq_true.1 h1
        have hLe := he o ho e hee
        have hed := down d o ho e hee
        rw [Bool.or_eq_true] at h2
        rcases h2 with h2 | h2
        · rw [beq_iff_eq] at h2; rw [← h2]; exact hLe
        · exact ih e hed (by omega) (fun o' ho' => hL e (by omega) hLe o' ho') i hi h2
  have apart : ∀ i j x y, i < j → ops[i]? = some x → ops[j]? = some y → ((Region.before ops).getD j 0).testBit i = false → x.apart ops y = true := by
    intro i j x y hij hx hy hb
    have hj : j < ops.size := (Array.getElem?_eq_some_iff.1 hy).1
    have := all_range (all_range hpairs hj) hij
    rw [hb, hx, hy] at this
    simpa using this
  intro fuel
  induction fuel with
  | zero =>
    intro L listed w hsz hl hL hf hLm hS
    have : m ∈ (List.range ops.size).filter fun j => !L j := List.mem_filter.2 ⟨List.mem_range.2 (by omega), by simp [hLm]⟩
    have := List.length_pos_of_mem this
    omega
  | succ fuel ihf =>
    intro L listed w hsz hl hL hf hLm hS
    refine ⟨fun hr => ?_, fun i hi => ?_⟩
    · -- nothing may come up: all is done
      have hall : ∀ j, j < ops.size → L j = true := by
        intro j
        induction j using Nat.strongRecOn with
        | ind j ih =>
          intro hj
          cases h : L j with
          | true => rfl
          | false =>
            have : j ∈ Region.ready .any ops listed := mem_ready.2 ⟨by rw [hl j hj, h], _, Array.getElem?_eq_getElem hj, fun e he hb => by
              have hed := down j _ (Array.getElem?_eq_getElem hj) e.on (List.mem_map.2 ⟨e, List.mem_filter.2 ⟨by simpa using he, hb⟩, rfl⟩)
              rw [hl e.on (by omega)]
              exact ih e.on hed (by omega)⟩
            rw [hr] at this
            cases this
      rw [hall m (by omega)] at hLm; cases hLm
    · obtain ⟨hi0, o, ho, hed⟩ := mem_ready.1 hi
      have hin : i < ops.size := (Array.getElem?_eq_some_iff.1 ho).1
      rw [hl i hin] at hi0
      have hee : ∀ e ∈ edgesOf o, L e = true := by
        intro e he
        obtain ⟨ed, h1, rfl⟩ := List.mem_map.1 he
        obtain ⟨h1, h2⟩ := List.mem_filter.1 h1
        have := hed ed (by simpa using h1) h2
        have hlt := down i o ho ed.on (List.mem_map.2 ⟨ed, List.mem_filter.2 ⟨h1, h2⟩, rfl⟩)
        rwa [hl ed.on (by omega)] at this
      have hwait := waits L hL i hin (fun o' ho' => by rw [ho] at ho'; cases ho'; exact hee)
      by_cases him : i = m
      · subst him
        rw [hol] at ho; cases ho
        have hall : ∀ j, j < i → L j = true := fun j hj => hwait j (by omega) (all_range hw hj)
        have hfr : fr ops V a0 L ops.size = A i := by
          rw [hm, hA i (by omega)]
          show (if L i = true then _ else _) = _
          rw [if_neg (by rw [hi0]; simp)]
          exact fr_same V a0 i (fun j hj => hall j hj)
        rw [hfr]
        have hdone : ∀ a' w', Q .normal a' w' → wpAny P .any ops Q fuel (listed.setIfInBounds i true) a' w' := by
          intro a' w' hq
          have hr : Region.ready .any ops (listed.setIfInBounds i true) = [] := by
            apply List.filter_eq_nil_iff.2
            intro j hj
            have hj := List.mem_range.1 hj
            have : (listed.setIfInBounds i true).getD j true = true := by
              rw [getD_set true (by omega)]
              split
              · rfl
              · rw [hl j hj]; exact hall j (by omega)
            rw [this]; simp
          cases fuel with
          | zero => exact ⟨hr, hq⟩
          | succ f => exact ⟨fun _ => hq, fun i' hi' => by rw [hr] at hi'; cases hi'⟩
        have hlast := hend w hS
        unfold wpOp
        rw [hol]
        unfold wpList at hlast
        show if Region.wanted ol (yielded ops (A i).tmps) = true then _ else _
        by_cases hwt : Region.wanted ol (yielded ops (A i).tmps) = true
        · rw [if_pos hwt] at hlast ⊢
          exact hlast.imp (Oper.wp_mono hdone) id
        · rw [if_neg hwt] at hlast ⊢
          exact hdone _ _ hlast
      have him : i < m := by omega
      -- j done and behind i, or not done and ahead of it: apart
      have hap : ∀ j y, ops[j]? = some y → j ≠ i → (L j ≠ decide (j < i)) → o.apart ops y = true ∨ y.apart ops o = true := by
        intro j y hy hne hd
        have hj : j < ops.size := (Array.getElem?_eq_some_iff.1 hy).1
        rcases Nat.lt_or_gt_of_ne hne with hlt | hgt
        · right
          refine apart j i y o hlt hy ho ?_
          cases hb : ((Region.before ops).getD i 0).testBit j with
          | false => rfl
          | true =>
            have := hwait j hj hb
            exact absurd (by rw [this]; simp [hlt]) hd
        · left
          refine apart i j o y hgt ho hy ?_
          cases hb : ((Region.before ops).getD j 0).testBit i with
          | false => rfl
          | true =>
            have hLj : L j = true := by
              cases h : L j with
              | true => rfl
              | false => exact absurd (by rw [h]; simp; omega) hd
            have := waits L hL j hj (fun o' ho' => hL j hj hLj o' ho') i hin hb
            rw [hi0] at this; cases this
      unfold wpOp
      rw [ho]
      have hsize : (fr ops V a0 L ops.size).tmps.size = (A i).tmps.size := by rw [hA i (by omega), (fr_size V a0 _ _).1, (fr_size V a0 _ _).1]
      have hdef : (fr ops V a0 L ops.size).defers = (A i).defers := by rw [hA i (by omega), (fr_size V a0 _ _).2, (fr_size V a0 _ _).2]
      have hlook : ∀ t ∈ o.looksAt ops, (fr ops V a0 L ops.size).tmps[t]? = (A i).tmps[t]? := by
        intro t ht
        rw [hA i (by omega), ← fr_upto V a0 i ops.size (by omega)]
        refine fr_at V a0 ops.size (fun j hj hd => ?_)
        have hne : j ≠ i := by
          rintro rfl
          rw [hi0] at hd
          simp at hd
        obtain ⟨y, hy⟩ : ∃ y, ops[j]? = some y := ⟨_, Array.getElem?_eq_getElem hj⟩
        intro hdt
        have hyd : y.dst = some t := by simpa [dstOf, hy] using hdt
        rcases hap j y hy hne hd with h | h
        · exact (Oper.apart_spec h).2.2 t hyd ht
        · exact (Oper.apart_spec h).1 t hyd ht
      have hup : fr ops V a0 (up L i) ops.size = (fr ops V a0 L ops.size).put o.dst (V i) := by
        have := fr_up (ops := ops) V a0 hi0 ops.size hin (fun j h1 h2 h3 d hd => by
          obtain ⟨y, hy⟩ : ∃ y, ops[j]? = some y := ⟨_, Array.getElem?_eq_getElem h2⟩
          have hod : o.dst = some d := by simpa [dstOf, ho] using hd
          have e : dstOf ops j = y.dst := by simp [dstOf, hy]
          rw [e]
          rcases hap j y hy (by omega) (by rw [h3]; simp; omega) with h | h
          · exact (Oper.apart_spec h).2.1 d hod
          · intro hyd; exact (Oper.apart_spec h).2.1 d hyd hod)
        rw [this]
        simp [dstOf, ho]
      have key := step_congr (Q := Q) (K := wpAny P .any ops Q fuel (listed.setIfInBounds i true)) (Region.noSelect_spec hsel i o · · ho) hlook hsize hdef (hst i o him ho w hS) (fun w1 hS1 => by
        rw [← hup]
        refine ihf (up L i) _ w1 (by simp [hsz]) (fun j hj d => ?_) (fun j hj hLj o' ho' e he => ?_) ?_ (by unfold up; rw [if_neg (by omega)]; exact hLm) hS1
        · rw [getD_set d (by omega), hl j hj]; rfl
        · by_cases hji : j = i
          · subst hji
            rw [ho] at ho'; cases ho'
            have := hee e he
            exact up_mono this
          · have hLj' : L j = true := by simpa [up, hji] using hLj
            exact up_mono (hL j hj hLj' o' ho' e he)
        · have hlen : ((List.range ops.size).filter fun j => !up L i j).length < ((List.range ops.size).filter fun j => !L j).length := by
            refine filter_lt (fun x hx => ?_) (by simp [hi0]) (by simp [up]) _ (List.mem_range.2 hin)
            by_cases hxi : x = i
            · subst hxi; simp [up] at hx
            · simpa [up, hxi] using hx
          omega)
      show if Region.wanted o (yielded ops (fr ops V a0 L ops.size).tmps) = true then _ else _
      split
      · rename_i hw; rw [if_pos hw] at key; exact .inl key
      · rename_i hw; rw [if_neg hw] at key; exact key

/-- THE REGION. -/
theorem region_seq {id : Nat} {a : Act} {w : World} (hm : P.follows .mixedOrders = true) (hc : chk ops = true) (hS : S w.drew) (h : SeqS P ops Q S ops.toList a) : (Code.region id ops true).wp P Q a w := by
  obtain ⟨V, A, hA0, hst, hend⟩ := seq_vals ops.toList a h
  have hA : ∀ i, i ≤ ops.size → A i = fr ops V a (fun _ => true) i := by
    intro i
    induction i with
    | zero => intro _; exact hA0
    | succ i ih =>
      intro hi
      have ho : ops[i]? = some ops[i] := Array.getElem?_eq_getElem (by omega)
      have := (hst i ops[i] (by simp)).1
      rw [this, ih (by omega)]
      show _ = (fr ops V a (fun _ => true) i).put (dstOf ops i) (V i)
      simp [dstOf, ho]
  refine wp_region_any hm ?_
  have := any_go (P := P) (Q := Q) (S := S) V A a hc hA (fun i o ho w hS => (hst i o (by simpa using ho)).2 w hS) (by have h1 := hend; rwa [Array.length_toList] at h1) ops.size (fun _ => false) (Array.replicate ops.size false) w.drew (by simp) (fun j hj d => by simp [Array.getD, hj]) (fun j _ hj => by cases hj) (Nat.le_trans (List.length_filter_le _ _) (by simp)) hS
  rw [fr_same V a (L' := fun j => decide (j < 0)) ops.size (fun j _ => by simp), fr_upto V a 0 ops.size (by omega)] at this
  exact this

/-- All but the last one each in any world that meets S; the last ends the region. -/
def SeqL (P : Program) (ops : Array Oper) (Q : Exit → Act → World → Prop) (S : World → Prop) : List Oper → Act → Prop
  | [], _ => False
  | [o], a => ∀ w, S w → wpList P ops Q [o] a w
  | o :: p :: rest, a => ∃ v, (∀ w, S w → wpList P ops (Step S (a.put o.dst v)) [o] a w) ∧ SeqL P ops Q S (p :: rest) (a.put o.dst v)
theorem last_cons {o p : Oper} {rest : List Oper} {a : Act} {v : Value} (h : ∀ w, S w → wpList P ops (Step S (a.put o.dst v)) [o] a w) (r : SeqL P ops Q S (p :: rest) (a.put o.dst v)) : SeqL P ops Q S (o :: p :: rest) a := ⟨v, h, r⟩
theorem last_one {o : Oper} {a : Act} (h : ∀ w, S w → wpList P ops Q [o] a w) : SeqL P ops Q S [o] a := h
theorem last_vals : ∀ (l : List Oper) (a : Act), SeqL P ops Q S l a → ∃ V : Nat → Value, ∃ A : Nat → Act, ∃ m ol, l.length = m + 1 ∧ l[m]? = some ol ∧ A 0 = a ∧ (∀ i o, i < m → l[i]? = some o → A (i + 1) = (A i).put o.dst (V i) ∧ ∀ w, S w → wpList P ops (Step S ((A i).put o.dst (V i))) [o] (A i) w) ∧ ∀ w, S w → wpList P ops Q [ol] (A m) w
  | [], _, h => h.elim
  | [o], a, h => ⟨fun _ => undef, fun _ => a, 0, o, rfl, rfl, rfl, fun i o hi => by omega, h⟩
  | o :: p :: l, a, ⟨v, h1, h2⟩ => by
    obtain ⟨V, A, m, ol, hl, hol, hA, hs, he⟩ := last_vals (p :: l) _ h2
    refine ⟨fun | 0 => v | i + 1 => V i, fun | 0 => a | i + 1 => A i, m + 1, ol, by simp at hl ⊢; omega, by simpa using hol, rfl, fun i o' hi ho => ?_, he⟩
    cases i with
    | zero =>
      simp at ho
      subst ho
      exact ⟨hA, h1⟩
    | succ i => exact hs i o' (by omega) (by simpa using ho)
def chkLast (ops : Array Oper) : Bool := chk ops && (List.range (ops.size - 1)).all fun i => ((Region.before ops).getD (ops.size - 1) 0).testBit i
theorem region_last {id : Nat} {a : Act} {w : World} (hm : P.follows .mixedOrders = true) (hc : chkLast ops = true) (hS : S w.drew) (h : SeqL P ops Q S ops.toList a) : (Code.region id ops true).wp P Q a w := by
  obtain ⟨V, A, m, ol, hl, hol, hA0, hst, hend⟩ := last_vals ops.toList a h
  have hsz : ops.size = m + 1 := by rw [← hl, Array.length_toList]
  have hol' : ops[m]? = some ol := by simpa using hol
  simp only [chkLast, Bool.and_eq_true] at hc
  obtain ⟨hc, hw⟩ := hc
  rw [show ops.size - 1 = m by omega] at hw
  have hA : ∀ i, i ≤ m → A i = fr ops V a (fun _ => true) i := by
    intro i
    induction i with
    | zero => intro _; exact hA0
    | succ i ih =>
      intro hi
      have ho : ops[i]? = some ops[i] := Array.getElem?_eq_getElem (by omega)
      have := (hst i ops[i] (by omega) (by simp)).1
      rw [this, ih (by omega)]
      show _ = (fr ops V a (fun _ => true) i).put (dstOf ops i) (V i)
      simp [dstOf, ho]
  refine wp_region_any hm ?_
  have := any_last (P := P) (Q := Q) (S := S) V A a hc m hsz hw ol hol' hA (fun i o hi ho w hS => (hst i o hi (by simpa using ho)).2 w hS) hend ops.size (fun _ => false) (Array.replicate ops.size false) w.drew (by simp) (fun j hj d => by simp [Array.getD, hj]) (fun j _ hj => by cases hj) (Nat.le_trans (List.length_filter_le _ _) (by simp)) rfl hS
  rw [fr_same V a (L' := fun j => decide (j < 0)) ops.size (fun j _ => by simp), fr_upto V a 0 ops.size (by omega)] at this
  exact this
end
end Go.Proofs.YtmjmcmohicjfkaaDoor.reg
