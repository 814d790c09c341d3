import Derived.Test.YtmjmcmohicjfkaaDoorReg
import Derived.OrdersIn
import Derived.TacticsIn
import Derived.Fence
import Derived.RangeFuncCalls
/-
  The same in the round of a range over a function (the wide fence): each operation walked as everywhere.
-/
namespace Go.Proofs.YtmjmcmohicjfkaaDoor.reg
open Go.RowKit

def FR (l : Nat) : Fence := Fence.wide.inRound l
section
variable {P : Program} {ops : Array Oper} {Q : Exit → Act → World → Prop} {S : World → Prop} {lr n : Nat}
theorem rows_round {row : String} {args : Array Value} {w : World} {R : Value → World → Prop} (h : Rows P row args w R) : RowsIn (FR lr) (n - 1) P row args w R := by
  intro c cs _
  obtain ⟨v, w', hr, hs⟩ := h c cs
  exact ⟨v, w', hr, stepsIn_wide.2 hs⟩
/-- One operation, as everywhere: in the round. -/
theorem to_in {o : Oper} {a : Act} {w : World} {K : Act → World → Prop} (hnd : ∀ c, o.op ≠ .defer c) (h : wpList P ops (fun e a1 w1 => e = .normal ∧ K a1 w1) [o] a w) :
    if Region.wanted o (yielded ops a.tmps) = true then o.wpIn (FR lr) n P a w K Q else (∀ f, o.about P w a.eval = some f → (FR lr).fn f) ∧ K (a.put o.dst undef) w := by
  unfold wpList at h
  by_cases hwt : Region.wanted o (yielded ops a.tmps) = true
  · rw [if_pos hwt] at h ⊢
    rcases h with h | ⟨_, _, _, h⟩
    · unfold Oper.wp at h
      refine ⟨fun _ _ => trivial, ?_⟩
      rw [show (FR lr).round = some lr from rfl, Oper.semAt_eq _ _ _ hnd]
      generalize (execOp a.eval o).run P w = r at h ⊢
      cases r with
      | ok n w' =>
        cases n with
        | value u => exact h.2
        | skip => exact h.2
        | defer d => exact h.2
        | enter f args =>
          refine ⟨(fun hd => by cases hd), CallsIn.inRound lr (callsIn_wide.2 (Calls.mono h (fun e w'' he => ?_)))⟩
          cases e with
          | returned u => exact he.2
          | panicked c => exact absurd he.1 (by simp)
          | outgrown =>
            obtain ⟨_, _, he⟩ := he
            exact absurd he.1 (by simp)
        | row row args =>
          refine ⟨(fun hd => by cases hd), rows_round (Rows.mono h (fun u w'' he => ?_))⟩
          exact he.2
        | _ => exact h.elim
      | halt x w' =>
        cases x with
        | panic u => exact absurd h.1 (by simp)
        | _ => exact h.elim
    · exact absurd h.1 (by simp)
  · rw [if_neg hwt] at h ⊢
    exact ⟨fun _ _ => trivial, h.2⟩
def noDefer (ops : Array Oper) : Bool := ops.all fun o => match o.op with | .defer _ => false | _ => true
theorem noDefer_spec (h : noDefer ops = true) {i : Nat} {o : Oper} (ho : ops[i]? = some o) : ∀ c, o.op ≠ .defer c := by
  intro c hc
  unfold noDefer at h
  rw [Array.all_eq_true_iff_forall_mem] at h
  have := h o (Array.mem_of_getElem? ho)
  rw [hc] at this
  cases this
/-- The operation from another frame that says the same where it looks. -/
theorem step_congrIn {o : Oper} {A A' : Act} {w : World} {v : Value} {K : Act → World → Prop} (hsel : ∀ cs b, o.op ≠ .select cs b) (hlook : ∀ t ∈ o.looksAt ops, A'.tmps[t]? = A.tmps[t]?) (hs : A'.tmps.size = A.tmps.size) (_hd : A'.defers = A.defers)
    (h : wpList P ops (Step S (A.put o.dst v)) [o] A w) (hK : ∀ w1, S w1 → K (A'.put o.dst v) w1) :
    if Region.wanted o (yielded ops A'.tmps) = true then o.wpIn (FR lr) n P A' w K Q else (∀ f, o.about P w A'.eval = some f → (FR lr).fn f) ∧ K (A'.put o.dst undef) w := by
  have heval : ∀ x ∈ o.op.operands, A'.eval x = A.eval x := by
    intro x hx
    cases x with
    | tmp t =>
      have := hlook t (List.mem_append_left _ (List.mem_filterMap.2 ⟨.tmp t, by simpa using hx, rfl⟩))
      simp [Act.eval, this]
    | _ => rfl
  have hw : Region.wanted o (yielded ops A'.tmps) = Region.wanted o (yielded ops A.tmps) := by
    unfold Region.wanted
    cases hg : o.guard with
    | none => rfl
    | some g =>
      obtain ⟨j, want⟩ := g
      have : yielded ops A'.tmps j = yielded ops A.tmps j := by
        unfold yielded
        cases hj : (ops[j]?).bind (·.dst) with
        | none => rfl
        | some t =>
          have := hlook t (List.mem_append_right _ (by simp [hg, hj]))
          simp [this]
      simp only [this]
  rw [hw]
  unfold wpList at h
  by_cases hwt : Region.wanted o (yielded ops A.tmps) = true
  · rw [if_pos hwt] at h ⊢
    rcases h with h | ⟨_, _, _, h⟩
    · unfold Oper.wp at h
      have hnd : ∀ c, o.op ≠ .defer c := by
        intro c hc
        rw [show execOp A.eval o = (do pure (.defer (← resolve A.eval c o.type))) by unfold execOp; rw [hc]] at h
        simp only [Sem.run_bind] at h
        generalize (resolve A.eval c o.type).run P w = r at h
        cases r with
        | ok d w' =>
          simp only [Result.andThen, Sem.run_pure] at h
          have := congrArg Act.defers h.a
          rw [put_def, put_def] at this
          exact absurd this (by simp)
        | halt x w' =>
          cases x with
          | panic u => exact absurd h.e (by simp)
          | _ => exact h.elim
      refine ⟨fun _ _ => trivial, ?_⟩
      rw [show (FR lr).round = some lr from rfl, Oper.semAt_eq _ _ _ hnd, execOp_congr o hsel heval]
      generalize (execOp A.eval o).run P w = r at h ⊢
      cases r with
      | ok n w' =>
        cases n with
        | value u =>
          obtain ⟨_, h1, h2⟩ := h
          show K (A'.put o.dst u) w'
          rw [put_eq_of hs h1]; exact hK _ h2
        | skip =>
          obtain ⟨_, h1, h2⟩ := h
          show K (A'.put o.dst undef) w'
          rw [put_eq_of hs h1]; exact hK _ h2
        | defer d =>
          obtain ⟨_, h1, _⟩ := h
          have := congrArg Act.defers h1
          rw [put_def, put_def] at this
          exact absurd this (by simp)
        | enter f args =>
          refine ⟨(fun hd => by cases hd), CallsIn.inRound lr (callsIn_wide.2 (Calls.mono h (fun e w'' he => ?_)))⟩
          cases e with
          | returned u =>
            obtain ⟨_, h1, h2⟩ := he
            show K (A'.put o.dst u) w''
            rw [put_eq_of hs h1]; exact hK _ h2
          | panicked c => exact absurd he.e (by simp)
          | outgrown =>
            obtain ⟨_, _, he⟩ := he
            exact absurd he.e (by simp)
        | row row args =>
          refine ⟨(fun hd => by cases hd), rows_round (Rows.mono h (fun u w'' he => ?_))⟩
          obtain ⟨_, h1, h2⟩ := he
          show K (A'.put o.dst u) w''
          rw [put_eq_of hs h1]; exact hK _ h2
        | _ => exact h.elim
      | halt x w' =>
        cases x with
        | panic u => exact absurd h.e (by simp)
        | _ => exact h.elim
    · exact absurd h.e (by simp)
  · rw [if_neg hwt] at h ⊢
    obtain ⟨_, h1, h2⟩ := h
    rw [put_eq_of hs h1]; exact ⟨fun _ _ => trivial, hK _ h2⟩

/-- From where L is done, whatever comes up. -/
theorem any_goIn (V : Nat → Value) (A : Nat → Act) (a0 : Act) (hc : chk ops = true)
    (hA : ∀ i, i ≤ ops.size → A i = fr ops V a0 (fun _ => true) i)
    (hst : ∀ i o, ops[i]? = some o → ∀ w, S w → wpList P ops (Step S ((A i).put o.dst (V i))) [o] (A i) w)
    (hend : ∀ w, S w → Q .normal (A ops.size) w) :
    ∀ (fuel : Nat) (L : Nat → Bool) (listed : Array Bool) (w : World), listed.size = ops.size → (∀ j, j < ops.size → ∀ d, listed.getD j d = L j) →
      (∀ j, j < ops.size → L j = true → ∀ o, ops[j]? = some o → ∀ e ∈ edgesOf o, L e = true) → ((List.range ops.size).filter fun j => !L j).length ≤ fuel → S w →
      wpAnyIn (FR lr) n P .any ops Q fuel listed (fr ops V a0 L ops.size) w := by
  simp only [chk, Bool.and_eq_true] at hc
  obtain ⟨⟨⟨hsel, hdown⟩, hclosed⟩, hpairs⟩ := hc
  have down : ∀ d o, ops[d]? = some o → ∀ e ∈ edgesOf o, e < d := by
    intro d o ho e he
    have hd : d < ops.size := (Array.getElem?_eq_some_iff.1 ho).1
    have := all_range hdown hd
    rw [ho] at this
    simpa using List.all_eq_true.1 this e he
  -- what d waits for is done, where d's own edges are
  have waits : ∀ (L : Nat → Bool), (∀ j, j < ops.size → L j = true → ∀ o, ops[j]? = some o → ∀ e ∈ edgesOf o, L e = true) →
      ∀ d, d < ops.size → (∀ o, ops[d]? = some o → ∀ e ∈ edgesOf o, L e = true) → ∀ i, i < ops.size → ((Region.before ops).getD d 0).testBit i = true → L i = true := by
    intro L hL d
    induction d using Nat.strongRecOn with
    | ind d ih =>
      intro hd he i hi hb
      have h1 := all_range (all_range hclosed hd) hi
      rw [hb] at h1
      simp only [Bool.not_true, Bool.false_or] at h1
      cases ho : ops[d]? with
      | none => rw [ho] at h1; cases h1
      | some o =>
        rw [ho] at h1
        obtain ⟨e, hee, h2⟩ := List.any_eq_true.1 h1
        have hLe := he o ho e hee
        have hed := down d o ho e hee
        rw [Bool.or_eq_true] at h2
        rcases h2 with h2 | h2
        · rw [beq_iff_eq] at h2; rw [← h2]; exact hLe
        · exact ih e hed (by omega) (fun o' ho' => hL e (by omega) hLe o' ho') i hi h2
  have apart : ∀ i j x y, i < j → ops[i]? = some x → ops[j]? = some y → ((Region.before ops).getD j 0).testBit i = false → x.apart ops y = true := by
    intro i j x y hij hx hy hb
    have hj : j < ops.size := (Array.getElem?_eq_some_iff.1 hy).1
    have := all_range (all_range hpairs hj) hij
    rw [hb, hx, hy] at this
    simpa using this
  intro fuel
  induction fuel with
  | zero =>
    intro L listed w hsz hl hL hf hS
    have hall : ∀ j, j < ops.size → L j = true := by
      intro j hj
      cases h : L j with
      | true => rfl
      | false =>
        have : j ∈ (List.range ops.size).filter fun j => !L j := List.mem_filter.2 ⟨List.mem_range.2 hj, by simp [h]⟩
        have := List.length_pos_of_mem this
        omega
    have hr : Region.ready .any ops listed = [] := by
      apply List.filter_eq_nil_iff.2
      intro j hj
      have hj := List.mem_range.1 hj
      rw [hl j hj, hall j hj]
      simp
    refine ⟨hr, ?_⟩
    rw [fr_same V a0 (L' := fun _ => true) ops.size (fun j hj => hall j hj), ← hA _ (Nat.le_refl _)]
    exact hend w hS
  | succ fuel ihf =>
    intro L listed w hsz hl hL hf hS
    refine ⟨fun hr => ?_, fun i hi => ?_⟩
    · -- nothing may come up: all is done
      have hall : ∀ j, j < ops.size → L j = true := by
        intro j
        induction j using Nat.strongRecOn with
        | ind j ih =>
          intro hj
          cases h : L j with
          | true => rfl
          | false =>
            have : j ∈ Region.ready .any ops listed := mem_ready.2 ⟨by rw [hl j hj, h], _, Array.getElem?_eq_getElem hj, fun e he hb => by
              have hed := down j _ (Array.getElem?_eq_getElem hj) e.on (List.mem_map.2 ⟨e, List.mem_filter.2 ⟨by simpa using he, hb⟩, rfl⟩)
              rw [hl e.on (by omega)]
              exact ih e.on hed (by omega)⟩
            rw [hr] at this
            cases this
      rw [fr_same V a0 (L' := fun _ => true) ops.size (fun j hj => hall j hj), ← hA _ (Nat.le_refl _)]
      exact hend w hS
    · obtain ⟨hi0, o, ho, hed⟩ := mem_ready.1 hi
      have hin : i < ops.size := (Array.getElem?_eq_some_iff.1 ho).1
      rw [hl i hin] at hi0
      have hee : ∀ e ∈ edgesOf o, L e = true := by
        intro e he
        obtain ⟨ed, h1, rfl⟩ := List.mem_map.1 he
        obtain ⟨h1, h2⟩ := List.mem_filter.1 h1
        have := hed ed (by simpa using h1) h2
        have hlt := down i o ho ed.on (List.mem_map.2 ⟨ed, List.mem_filter.2 ⟨h1, h2⟩, rfl⟩)
        rwa [hl ed.on (by omega)] at this
      have hwait := waits L hL i hin (fun o' ho' => by rw [ho] at ho'; cases ho'; exact hee)
      -- j done and behind i, or not done and ahead of it: apart
      have hap : ∀ j y, ops[j]? = some y → j ≠ i → (L j ≠ decide (j < i)) → o.apart ops y = true ∨ y.apart ops o = true := by
        intro j y hy hne hd
        have hj : j < ops.size := (Array.getElem?_eq_some_iff.1 hy).1
        rcases Nat.lt_or_gt_of_ne hne with hlt | hgt
        · right
          refine apart j i y o hlt hy ho ?_
          cases hb : ((Region.before ops).getD i 0).testBit j with
          | false => rfl
          | true =>
            have := hwait j hj hb
            exact absurd (by rw [this]; simp [hlt]) hd
        · left
          refine apart i j o y hgt ho hy ?_
          cases hb : ((Region.before ops).getD j 0).testBit i with
          | false => rfl
          | true =>
            have hLj : L j = true := by
              cases h : L j with
              | true => rfl
              | false => exact absurd (by rw [h]; simp; omega) hd
            have := waits L hL j hj (fun o' ho' => hL j hj hLj o' ho') i hin hb
            rw [hi0] at this; cases this
      unfold wpOpIn
      rw [ho]
      have hsize : (fr ops V a0 L ops.size).tmps.size = (A i).tmps.size := by rw [hA i (by omega), (fr_size V a0 _ _).1, (fr_size V a0 _ _).1]
      have hdef : (fr ops V a0 L ops.size).defers = (A i).defers := by rw [hA i (by omega), (fr_size V a0 _ _).2, (fr_size V a0 _ _).2]
      have hlook : ∀ t ∈ o.looksAt ops, (fr ops V a0 L ops.size).tmps[t]? = (A i).tmps[t]? := by
        intro t ht
        rw [hA i (by omega), ← fr_upto V a0 i ops.size (by omega)]
        refine fr_at V a0 ops.size (fun j hj hd => ?_)
        have hne : j ≠ i := by
          rintro rfl
          rw [hi0] at hd
          simp at hd
        obtain ⟨y, hy⟩ : ∃ y, ops[j]? = some y := ⟨_, Array.getElem?_eq_getElem hj⟩
        intro hdt
        have hyd : y.dst = some t := by simpa [dstOf, hy] using hdt
        rcases hap j y hy hne hd with h | h
        · exact (Oper.apart_spec h).2.2 t hyd ht
        · exact (Oper.apart_spec h).1 t hyd ht
      have hup : fr ops V a0 (up L i) ops.size = (fr ops V a0 L ops.size).put o.dst (V i) := by
        have := fr_up (ops := ops) V a0 hi0 ops.size hin (fun j h1 h2 h3 d hd => by
          obtain ⟨y, hy⟩ : ∃ y, ops[j]? = some y := ⟨_, Array.getElem?_eq_getElem h2⟩
          have hod : o.dst = some d := by simpa [dstOf, ho] using hd
          have e : dstOf ops j = y.dst := by simp [dstOf, hy]
          rw [e]
          rcases hap j y hy (by omega) (by rw [h3]; simp; omega) with h | h
          · exact (Oper.apart_spec h).2.1 d hod
          · intro hyd; exact (Oper.apart_spec h).2.1 d hyd hod)
        rw [this]
        simp [dstOf, ho]
      have key := step_congrIn (lr := lr) (n := n) (Q := Q) (K := wpAnyIn (FR lr) n P .any ops Q fuel (listed.setIfInBounds i true)) (Region.noSelect_spec hsel i o · · ho) hlook hsize hdef (hst i o ho w hS) (fun w1 hS1 => by
        rw [← hup]
        refine ihf (up L i) _ w1 (by simp [hsz]) (fun j hj d => ?_) (fun j hj hLj o' ho' e he => ?_) ?_ hS1
        · rw [getD_set d (by omega), hl j hj]; rfl
        · by_cases hji : j = i
          · subst hji
            rw [ho] at ho'; cases ho'
            have := hee e he
            exact up_mono this
          · have hLj' : L j = true := by simpa [up, hji] using hLj
            exact up_mono (hL j hj hLj' o' ho' e he)
        · have hlen : ((List.range ops.size).filter fun j => !up L i j).length < ((List.range ops.size).filter fun j => !L j).length := by
            refine filter_lt (fun x hx => ?_) (by simp [hi0]) (by simp [up]) _ (List.mem_range.2 hin)
            by_cases hxi : x = i
            · subst hxi; simp [up] at hx
            · simpa [up, hxi] using hx
          omega)
      exact key

/-- .. the last one waits for all others, and ends it. -/
theorem any_lastIn (V : Nat → Value) (A : Nat → Act) (a0 : Act) (hc : chk ops = true) (m : Nat) (hm : ops.size = m + 1) (hw : ((List.range m).all fun i => ((Region.before ops).getD m 0).testBit i) = true) (ol : Oper) (hol : ops[m]? = some ol)
    (hA : ∀ i, i ≤ m → A i = fr ops V a0 (fun _ => true) i)
    (hst : ∀ i o, i < m → ops[i]? = some o → ∀ w, S w → wpList P ops (Step S ((A i).put o.dst (V i))) [o] (A i) w)
    (hend : ∀ w, S w → wpList P ops (fun e a1 w1 => e = .normal ∧ Q .normal a1 w1) [ol] (A m) w) (hD : noDefer ops = true) :
    ∀ (fuel : Nat) (L : Nat → Bool) (listed : Array Bool) (w : World), listed.size = ops.size → (∀ j, j < ops.size → ∀ d, listed.getD j d = L j) →
      (∀ j, j < ops.size → L j = true → ∀ o, ops[j]? = some o → ∀ e ∈ edgesOf o, L e = true) → ((List.range ops.size).filter fun j => !L j).length ≤ fuel → L m = false → S w →
      wpAnyIn (FR lr) n P .any ops Q fuel listed (fr ops V a0 L ops.size) w := by
  simp only [chk, Bool.and_eq_true] at hc
  obtain ⟨⟨⟨hsel, hdown⟩, hclosed⟩, hpairs⟩ := hc
  have down : ∀ d o, ops[d]? = some o → ∀ e ∈ edgesOf o, e < d := by
    intro d o ho e he
    have hd : d < ops.size := (Array.getElem?_eq_some_iff.1 ho).1
    have := all_range hdown hd
    rw [ho] at this
    simpa using List.all_eq_true.1 this e he
  -- what d waits for is done, where d's own edges are
  have waits : ∀ (L : Nat → Bool), (∀ j, j < ops.size → L j = true → ∀ o, ops[j]? = some o → ∀ e ∈ edgesOf o, L e = true) →
      ∀ d, d < ops.size → (∀ o, ops[d]? = some o → ∀ e ∈ edgesOf o, L e = true) → ∀ i, i < ops.size → ((Region.before ops).getD d 0).testBit i = true → L i = true := by
    intro L hL d
    induction d using Nat.strongRecOn with
    | ind d ih =>
      intro hd he i hi hb
      have h1 := all_range (all_range hclosed hd) hi
      rw [hb] at h1
      simp only [Bool.not_true, Bool.false_or] at h1
      cases ho : ops[d]? with
      | none => rw [ho] at h1; cases h1
      | some o =>
        rw [ho] at h1
        obtain ⟨e, hee, h2⟩ := List.any_eq_true.1 h1
        have hLe := he o ho e hee
        have hed := down d o ho e hee
        rw [Bool.or_eq_true] at h2
        rcases h2 with h2 | h2
        · rw [beq_iff_eq] at h2; rw [← h2]; exact hLe
        · exact ih e hed (by omega) (fun o' ho' => hL e (by omega) hLe o' ho') i hi h2
  have apart : ∀ i j x y, i < j → ops[i]? = some x → ops[j]? = some y → ((Region.before ops).getD j 0).testBit i = false → x.apart ops y = true := by
    intro i j x y hij hx hy hb
    have hj : j < ops.size := (Array.getElem?_eq_some_iff.1 hy).1
    have := all_range (all_range hpairs hj) hij
    rw [hb, hx, hy] at this
    simpa using this
  intro fuel
  induction fuel with
  | zero =>
    intro L listed w hsz hl hL hf hLm hS
    have : m ∈ (List.range ops.size).filter fun j => !L j := List.mem_filter.2 ⟨List.mem_range.2 (by omega), by simp [hLm]⟩
    have := List.length_pos_of_mem this
    omega
  | succ fuel ihf =>
    intro L listed w hsz hl hL hf hLm hS
    refine ⟨fun hr => ?_, fun i hi => ?_⟩
    · -- nothing may come up: all is done
      have hall : ∀ j, j < ops.size → L j = true := by
        intro j
        induction j using Nat.strongRecOn with
        | ind j ih =>
          intro hj
          cases h : L j with
          | true => rfl
          | false =>
            have : j ∈ Region.ready .any ops listed := mem_ready.2 ⟨by rw [hl j hj, h], _, Array.getElem?_eq_getElem hj, fun e he hb => by
              have hed := down j _ (Array.getElem?_eq_getElem hj) e.on (List.mem_map.2 ⟨e, List.mem_filter.2 ⟨by simpa using he, hb⟩, rfl⟩)
              rw [hl e.on (by omega)]
              exact ih e.on hed (by omega)⟩
            rw [hr] at this
            cases this
      rw [hall m (by omega)] at hLm; cases hLm
    · obtain ⟨hi0, o, ho, hed⟩ := mem_ready.1 hi
      have hin : i < ops.size := (Array.getElem?_eq_some_iff.1 ho).1
      rw [hl i hin] at hi0
      have hee : ∀ e ∈ edgesOf o, L e = true := by
        intro e he
        obtain ⟨ed, h1, rfl⟩ := List.mem_map.1 he
        obtain ⟨h1, h2⟩ := List.mem_filter.1 h1
        have := hed ed (by simpa using h1) h2
        have hlt := down i o ho ed.on (List.mem_map.2 ⟨ed, List.mem_filter.2 ⟨h1, h2⟩, rfl⟩)
        rwa [hl ed.on (by omega)] at this
      have hwait := waits L hL i hin (fun o' ho' => by rw [ho] at ho'; cases ho'; exact hee)
      by_cases him : i = m
      · subst him
        rw [hol] at ho; cases ho
        have hall : ∀ j, j < i → L j = true := fun j hj => hwait j (by omega) (all_range hw hj)
        have hfr : fr ops V a0 L ops.size = A i := by
          rw [hm, hA i (by omega)]
          show (if L i = true then _ else _) = _
          rw [if_neg (by rw [hi0]; simp)]
          exact fr_same V a0 i (fun j hj => hall j hj)
        rw [hfr]
        have hdone : ∀ a' w', Q .normal a' w' → wpAnyIn (FR lr) n P .any ops Q fuel (listed.setIfInBounds i true) a' w' := by
          intro a' w' hq
          have hr : Region.ready .any ops (listed.setIfInBounds i true) = [] := by
            apply List.filter_eq_nil_iff.2
            intro j hj
            have hj := List.mem_range.1 hj
            have : (listed.setIfInBounds i true).getD j true = true := by
              rw [getD_set true (by omega)]
              split
              · rfl
              · rw [hl j hj]; exact hall j (by omega)
            rw [this]; simp
          cases fuel with
          | zero => exact ⟨hr, hq⟩
          | succ f => exact ⟨fun _ => hq, fun i' hi' => by rw [hr] at hi'; cases hi'⟩
        have hlast := to_in (lr := lr) (n := n) (Q := Q) (noDefer_spec hD hol) (hend w hS)
        unfold wpOpIn
        rw [hol]
        show if Region.wanted ol (yielded ops (A i).tmps) = true then _ else _
        by_cases hwt : Region.wanted ol (yielded ops (A i).tmps) = true
        · rw [if_pos hwt] at hlast ⊢
          exact Oper.wpIn_mono hdone hlast
        · rw [if_neg hwt] at hlast ⊢
          exact ⟨hlast.1, hdone _ _ hlast.2⟩
      have him : i < m := by omega
      -- j done and behind i, or not done and ahead of it: apart
      have hap : ∀ j y, ops[j]? = some y → j ≠ i → (L j ≠ decide (j < i)) → o.apart ops y = true ∨ y.apart ops o = true := by
        intro j y hy hne hd
        have hj : j < ops.size := (Array.getElem?_eq_some_iff.1 hy).1
        rcases Nat.lt_or_gt_of_ne hne with hlt | hgt
        · right
          refine apart j i y o hlt hy ho ?_
          cases hb : ((Region.before ops).getD i 0).testBit j with
          | false => rfl
          | true =>
            have := hwait j hj hb
            exact absurd (by rw [this]; simp [hlt]) hd
        · left
          refine apart i j o y hgt ho hy ?_
          cases hb : ((Region.before ops).getD j 0).testBit i with
          | false => rfl
          | true =>
            have hLj : L j = true := by
              cases h : L j with
              | true => rfl
              | false => exact absurd (by rw [h]; simp; omega) hd
            have := waits L hL j hj (fun o' ho' => hL j hj hLj o' ho') i hin hb
            rw [hi0] at this; cases this
      unfold wpOpIn
      rw [ho]
      have hsize : (fr ops V a0 L ops.size).tmps.size = (A i).tmps.size := by rw [hA i (by omega), (fr_size V a0 _ _).1, (fr_size V a0 _ _).1]
      have hdef : (fr ops V a0 L ops.size).defers = (A i).defers := by rw [hA i (by omega), (fr_size V a0 _ _).2, (fr_size V a0 _ _).2]
      have hlook : ∀ t ∈ o.looksAt ops, (fr ops V a0 L ops.size).tmps[t]? = (A i).tmps[t]? := by
        intro t ht
        rw [hA i (by omega), ← fr_upto V a0 i ops.size (by omega)]
        refine fr_at V a0 ops.size (fun j hj hd => ?_)
        have hne : j ≠ i := by
          rintro rfl
          rw [hi0] at hd
          simp at hd
        obtain ⟨y, hy⟩ : ∃ y, ops[j]? = some y := ⟨_, Array.getElem?_eq_getElem hj⟩
        intro hdt
        have hyd : y.dst = some t := by simpa [dstOf, hy] using hdt
        rcases hap j y hy hne hd with h | h
        · exact (Oper.apart_spec h).2.2 t hyd ht
        · exact (Oper.apart_spec h).1 t hyd ht
      have hup : fr ops V a0 (up L i) ops.size = (fr ops V a0 L ops.size).put o.dst (V i) := by
        have := fr_up (ops := ops) V a0 hi0 ops.size hin (fun j h1 h2 h3 d hd => by
          obtain ⟨y, hy⟩ : ∃ y, ops[j]? = some y := ⟨_, Array.getElem?_eq_getElem h2⟩
          have hod : o.dst = some d := by simpa [dstOf, ho] using hd
          have e : dstOf ops j = y.dst := by simp [dstOf, hy]
          rw [e]
          rcases hap j y hy (by omega) (by rw [h3]; simp; omega) with h | h
          · exact (Oper.apart_spec h).2.1 d hod
          · intro hyd; exact (Oper.apart_spec h).2.1 d hyd hod)
        rw [this]
        simp [dstOf, ho]
      have key := step_congrIn (lr := lr) (n := n) (Q := Q) (K := wpAnyIn (FR lr) n P .any ops Q fuel (listed.setIfInBounds i true)) (Region.noSelect_spec hsel i o · · ho) hlook hsize hdef (hst i o him ho w hS) (fun w1 hS1 => by
        rw [← hup]
        refine ihf (up L i) _ w1 (by simp [hsz]) (fun j hj d => ?_) (fun j hj hLj o' ho' e he => ?_) ?_ (by unfold up; rw [if_neg (by omega)]; exact hLm) hS1
        · rw [getD_set d (by omega), hl j hj]; rfl
        · by_cases hji : j = i
          · subst hji
            rw [ho] at ho'; cases ho'
            have := hee e he
            exact up_mono this
          · have hLj' : L j = true := by simpa [up, hji] using hLj
            exact up_mono (hL j hj hLj' o' ho' e he)
        · have hlen : ((List.range ops.size).filter fun j => !up L i j).length < ((List.range ops.size).filter fun j => !L j).length := by
            refine filter_lt (fun x hx => ?_) (by simp [hi0]) (by simp [up]) _ (List.mem_range.2 hin)
            by_cases hxi : x = i
            · subst hxi; simp [up] at hx
            · simpa [up, hxi] using hx
          omega)
      exact key

/-- THE REGION. -/
theorem region_seqIn {id : Nat} {a : Act} {w : World} (hm : P.follows .mixedOrders = true) (hc : chk ops = true) (hS : S w.drew) (h : SeqS P ops Q S ops.toList a) : (Code.region id ops true).wpIn (FR lr) n P Q a w := by
  obtain ⟨V, A, hA0, hst, hend⟩ := seq_vals ops.toList a h
  have hA : ∀ i, i ≤ ops.size → A i = fr ops V a (fun _ => true) i := by
    intro i
    induction i with
    | zero => intro _; exact hA0
    | succ i ih =>
      intro hi
      have ho : ops[i]? = some ops[i] := Array.getElem?_eq_getElem (by omega)
      have := (hst i ops[i] (by simp)).1
      rw [this, ih (by omega)]
      show _ = (fr ops V a (fun _ => true) i).put (dstOf ops i) (V i)
      simp [dstOf, ho]
  refine wpIn_region_any hm ?_
  have := any_goIn (P := P) (Q := Q) (S := S) (lr := lr) (n := n) V A a hc hA (fun i o ho w hS => (hst i o (by simpa using ho)).2 w hS) (by have h1 := hend; rwa [Array.length_toList] at h1) ops.size (fun _ => false) (Array.replicate ops.size false) w.drew (by simp) (fun j hj d => by simp [Array.getD, hj]) (fun j _ hj => by cases hj) (Nat.le_trans (List.length_filter_le _ _) (by simp)) hS
  rw [fr_same V a (L' := fun j => decide (j < 0)) ops.size (fun j _ => by simp), fr_upto V a 0 ops.size (by omega)] at this
  exact this

theorem region_lastIn {id : Nat} {a : Act} {w : World} (hm : P.follows .mixedOrders = true) (hc : chkLast ops = true) (hS : S w.drew) (hD : noDefer ops = true) (h : SeqL P ops (fun e a1 w1 => e = .normal ∧ Q .normal a1 w1) S ops.toList a) : (Code.region id ops true).wpIn (FR lr) n P Q a w := by
  obtain ⟨V, A, m, ol, hl, hol, hA0, hst, hend⟩ := last_vals ops.toList a h
  have hsz : ops.size = m + 1 := by rw [← hl, Array.length_toList]
  have hol' : ops[m]? = some ol := by simpa using hol
  simp only [chkLast, Bool.and_eq_true] at hc
  obtain ⟨hc, hw⟩ := hc
  rw [show ops.size - 1 = m by omega] at hw
  have hA : ∀ i, i ≤ m → A i = fr ops V a (fun _ => true) i := by
    intro i
    induction i with
    | zero => intro _; exact hA0
    | succ i ih =>
      intro hi
      have ho : ops[i]? = some ops[i] := Array.getElem?_eq_getElem (by omega)
      have := (hst i ops[i] (by omega) (by simp)).1
      rw [this, ih (by omega)]
      show _ = (fr ops V a (fun _ => true) i).put (dstOf ops i) (V i)
      simp [dstOf, ho]
  refine wpIn_region_any hm ?_
  have := any_lastIn (P := P) (Q := Q) (S := S) (lr := lr) (n := n) V A a hc m hsz hw ol hol' hA (fun i o hi ho w hS => (hst i o hi (by simpa using ho)).2 w hS) hend hD ops.size (fun _ => false) (Array.replicate ops.size false) w.drew (by simp) (fun j hj d => by simp [Array.getD, hj]) (fun j _ hj => by cases hj) (Nat.le_trans (List.length_filter_le _ _) (by simp)) rfl hS
  rw [fr_same V a (L' := fun j => decide (j < 0)) ops.size (fun j _ => by simp), fr_upto V a 0 ops.size (by omega)] at this
  exact this

/-- A region that doesn't draw, as everywhere: in the round. -/
theorem list_in : ∀ (l : List Oper) (a : Act) (w : World), (∀ o ∈ l, ∀ c, o.op ≠ .defer c) → wpList P ops (fun e a1 w1 => e = .normal ∧ Q .normal a1 w1) l a w → wpListIn (FR lr) n P ops Q l a w
  | [], _, _, _, h => h.2
  | o :: l, a, w, hnd, h => by
    have h1 : wpList P ops (fun e a1 w1 => e = .normal ∧ wpListIn (FR lr) n P ops Q l a1 w1) [o] a w := by
      unfold wpList at h ⊢
      have conv : ∀ a1 w1, wpList P ops (fun e a1 w1 => e = .normal ∧ Q .normal a1 w1) l a1 w1 → wpList P ops (fun e a1 w1 => e = .normal ∧ wpListIn (FR lr) n P ops Q l a1 w1) [] a1 w1 :=
        fun a1 w1 h2 => ⟨rfl, list_in l a1 w1 (fun x hx => hnd x (by simp [hx])) h2⟩
      by_cases hwt : Region.wanted o (yielded ops a.tmps) = true
      · rw [if_pos hwt] at h ⊢
        rcases h with h | ⟨_, _, _, h⟩
        · left
          unfold Oper.wp at h ⊢
          generalize (execOp a.eval o).run P w = r at h ⊢
          cases r with
          | ok n w' =>
            cases n <;> simp only [Oper.upon] at h ⊢ <;> first
              | exact conv _ _ h
              | exact Calls.mono h (fun e w'' he => by
                  cases e with
                  | returned u => exact conv _ _ he
                  | panicked c => exact absurd he.1 (by simp)
                  | outgrown => obtain ⟨_, _, he⟩ := he; exact absurd he.1 (by simp))
              | exact Rows.mono h (fun _ _ he => conv _ _ he)
          | halt x w' =>
            cases x <;> simp only [Oper.upon] at h ⊢ <;> first
              | exact absurd h.1 (by simp)
              | exact h.elim
        · exact absurd h.1 (by simp)
      · rw [if_neg hwt] at h ⊢
        exact conv _ _ h
    exact to_in (hnd o (by simp)) h1
theorem region_plainIn {id : Nat} {a : Act} {w : World} (hD : noDefer ops = true) (h : wpList P ops (fun e a1 w1 => e = .normal ∧ Q .normal a1 w1) ops.toList a w) : (Code.region id ops false).wpIn (FR lr) n P Q a w :=
  wpIn_region_list (list_in _ _ _ (fun o ho => by
    obtain ⟨i, hi, rfl⟩ := List.getElem_of_mem ho
    exact noDefer_spec hD (i := i) (by simp)) h)
end
end Go.Proofs.YtmjmcmohicjfkaaDoor.reg
