import Derived.Test.YtmjmcmohicjfkaaDoorTabM
import Derived.Test.YtmjmcmohicjfkaaDoorTabI
/-
  The plain law of rows that are set: sorted rows, what is in them.
-/
namespace Go.Proofs.YtmjmcmohicjfkaaDoor.tab
open Go.RowKit Go.Shelf Go.Proofs.YtmjmcmohicjfkaaDoorW.PrintWords

theorem less_irrefl : ∀ a : List UInt8, Op.bytesLess a a = false
  | [] => rfl
  | a :: x => by simp [Op.bytesLess, less_irrefl x]
theorem less_trans : ∀ a b c : List UInt8, Op.bytesLess a b = true → Op.bytesLess b c = true → Op.bytesLess a c = true
  | _, [], _, h, _ => by simp [Op.bytesLess] at h
  | _, _ :: _, [], _, h => by simp [Op.bytesLess] at h
  | [], _ :: _, _ :: _, _, _ => rfl
  | a :: x, b :: y, c :: z, h, k => by
    simp only [Op.bytesLess, Bool.or_eq_true, Bool.and_eq_true, decide_eq_true_eq, beq_iff_eq] at h k ⊢
    rcases h with h | ⟨rfl, h⟩
    · rcases k with k | ⟨rfl, _⟩
      · exact .inl (UInt8.lt_trans h k)
      · exact .inl h
    · rcases k with k | ⟨rfl, k⟩
      · exact .inl k
      · exact .inr ⟨rfl, less_trans x y z h k⟩
theorem less_total : ∀ a b : List UInt8, a ≠ b → Op.bytesLess a b = true ∨ Op.bytesLess b a = true
  | [], [], h => absurd rfl h
  | [], _ :: _, _ => .inl rfl
  | _ :: _, [], _ => .inr rfl
  | a :: x, b :: y, h => by
    simp only [Op.bytesLess, Bool.or_eq_true, Bool.and_eq_true, decide_eq_true_eq, beq_iff_eq]
    by_cases e : a = b
    · subst e
      rcases less_total x y (fun e => h (by rw [e])) with k | k
      · exact .inl (.inr ⟨rfl, k⟩)
      · exact .inr (.inr ⟨rfl, k⟩)
    · rcases UInt8.lt_or_lt_of_ne e with k | k
      · exact .inl (.inl k)
      · exact .inr (.inl k)
theorem gt_less (a b : ByteArray) : gtB a b = true ↔ Op.bytesLess b.toList a.toList = true := by
  unfold gtB
  simp only [Bool.and_eq_true, Bool.not_eq_true', beq_eq_false_iff_ne]
  constructor
  · rintro ⟨h1, h2⟩
    rcases less_total _ _ h2 with h | h
    · rw [h1] at h; cases h
    · exact h
  · intro h
    refine ⟨?_, ?_⟩
    · cases e : Op.bytesLess a.toList b.toList with
      | false => rfl
      | true => have := less_trans _ _ _ e h; rw [less_irrefl] at this; cases this
    · intro e; rw [e, less_irrefl] at h; cases h
theorem gt_trans {a b c : ByteArray} (h : gtB a b = true) (k : gtB b c = true) : gtB a c = true := (gt_less a c).2 (less_trans _ _ _ ((gt_less b c).1 k) ((gt_less a b).1 h))
theorem gt_irrefl (a : ByteArray) : gtB a a = false := by
  cases h : gtB a a with
  | false => rfl
  | true => have := (gt_less a a).1 h; rw [less_irrefl] at this; cases this
theorem gt_total {a b : ByteArray} (h : a ≠ b) (k : gtB a b = false) : gtB b a = true := by
  rcases less_total a.toList b.toList (fun e => h (str_inj e)) with e | e
  · exact (gt_less b a).2 e
  · rw [(gt_less a b).2 e] at k; cases k

def Sorted (l : List Row) : Prop := l.Pairwise fun x y => gtB y.f0 x.f0 = true
theorem sorted_keys {l : List Row} (h : Sorted l) : ∀ x ∈ l, ∀ y ∈ l, x.f0 = y.f0 → x = y := by
  unfold Sorted at h
  induction l with
  | nil => intro x hx; cases hx
  | cons z l ih =>
    rw [List.pairwise_cons] at h
    intro x hx y hy e
    rcases List.mem_cons.1 hx with hxe | hx'
    · rcases List.mem_cons.1 hy with hye | hy'
      · rw [hxe, hye]
      · have := h.1 y hy'; rw [← hxe, e, gt_irrefl] at this; cases this
    · rcases List.mem_cons.1 hy with hye | hy'
      · have := h.1 x hx'; rw [← hye, ← e, gt_irrefl] at this; cases this
      · exact ih h.2 x hx' y hy' e
/-- Sorted rows of the same elements are the same. -/
theorem sorted_eq : ∀ {l m : List Row}, Sorted l → Sorted m → (∀ x, x ∈ l ↔ x ∈ m) → l = m
  | [], [], _, _, _ => rfl
  | [], y :: m, _, _, h => absurd ((h y).2 (by simp)) (by simp)
  | x :: l, [], _, _, h => absurd ((h x).1 (by simp)) (by simp)
  | x :: l, y :: m, hl, hm, h => by
    have hl' := List.pairwise_cons.1 hl
    have hm' := List.pairwise_cons.1 hm
    have hxy : x = y := by
      rcases List.mem_cons.1 ((h x).1 (by simp)) with e | e
      · exact e
      · rcases List.mem_cons.1 ((h y).2 (by simp)) with e2 | e2
        · exact e2.symm
        · have h1 := hm'.1 x e
          have h2 := hl'.1 y e2
          have := gt_trans h1 h2
          rw [gt_irrefl] at this; cases this
    subst hxy
    rw [sorted_eq hl'.2 hm'.2 (fun z => ?_)]
    constructor
    · intro hz
      rcases List.mem_cons.1 ((h z).1 (by simp [hz])) with e | e
      · subst e; have := hl'.1 z hz; rw [gt_irrefl] at this; cases this
      · exact e
    · intro hz
      rcases List.mem_cons.1 ((h z).2 (by simp [hz])) with e | e
      · subst e; have := hm'.1 z hz; rw [gt_irrefl] at this; cases this
      · exact e
theorem drop_mem (l : List Row) (key : ByteArray) (x : Row) : x ∈ dropP l key ↔ x ∈ l ∧ x.f0 ≠ key := by
  unfold dropP
  rw [List.mem_filter]
  refine and_congr Iff.rfl ?_
  simp only [Bool.not_eq_true', beq_eq_false_iff_ne]
  exact ⟨fun h e => h (by rw [e]), fun h e => h (str_inj e)⟩
theorem drop_sorted {l : List Row} (h : Sorted l) (key : ByteArray) : Sorted (dropP l key) := List.Pairwise.sublist List.filter_sublist h
theorem set_mem (l : List Row) (r x : Row) : x ∈ setP l r ↔ x = r ∨ (x ∈ l ∧ x.f0 ≠ r.f0) := by
  unfold setP
  rw [← drop_mem]
  generalize dropP l r.f0 = out
  generalize insAt out r.f0 = i
  have e : x ∈ out ↔ x ∈ out.take i ∨ x ∈ out.drop i := by rw [← List.mem_append, List.take_append_drop]
  rw [e]
  simp only [List.mem_append, List.mem_singleton]
  constructor
  · rintro ((h | h) | h)
    · exact .inr (.inl h)
    · exact .inl h
    · exact .inr (.inr h)
  · rintro (h | h | h)
    · exact .inl (.inr h)
    · exact .inl (.inl h)
    · exact .inr h
theorem set_length (l : List Row) (r : Row) : (setP l r).length ≤ l.length + 1 := by
  unfold setP
  have h1 : (dropP l r.f0).length ≤ l.length := List.length_filter_le _ _
  have h2 := insAt_le (dropP l r.f0) r.f0
  simp only [List.length_append, List.length_take, List.length_drop, List.length_singleton]
  omega
theorem set_sorted {l : List Row} (h : Sorted l) (r : Row) : Sorted (setP l r) := by
  have hd := drop_sorted h r.f0
  have hne : ∀ x ∈ dropP l r.f0, x.f0 ≠ r.f0 := fun x hx => ((drop_mem l r.f0 x).1 hx).2
  unfold setP
  generalize dropP l r.f0 = out at *
  have hbefore : ∀ x ∈ out.take (insAt out r.f0), gtB r.f0 x.f0 = true := by
    intro x hx
    obtain ⟨j, hj, rfl⟩ := List.getElem_of_mem hx
    rw [List.length_take] at hj
    rw [List.getElem_take]
    have hj2 : j < out.length := by omega
    refine gt_total (hne _ (List.getElem_mem hj2)) ?_
    have hji : j < insAt out r.f0 := by omega
    unfold insAt at hji
    cases hf : out.findIdx? fun x => gtB x.f0 r.f0 with
    | none =>
      have := (List.findIdx?_eq_none_iff.1 hf) _ (List.getElem_mem hj2)
      simpa using this
    | some i =>
      rw [hf, Option.getD_some] at hji
      obtain ⟨_, _, h3⟩ := List.findIdx?_eq_some_iff_getElem.1 hf
      simpa using h3 j hji
  have aux : ∀ k (hk : k < out.length), insAt out r.f0 ≤ k → gtB out[k].f0 r.f0 = true := by
    intro k hlt hge
    cases hf : out.findIdx? fun x => gtB x.f0 r.f0 with
    | none => have hi : insAt out r.f0 = out.length := by unfold insAt; rw [hf]; rfl
              omega
    | some i =>
      have hi : insAt out r.f0 = i := by unfold insAt; rw [hf]; rfl
      obtain ⟨h1, h2, _⟩ := List.findIdx?_eq_some_iff_getElem.1 hf
      by_cases e : i = k
      · subst e; simpa using h2
      · have := List.pairwise_iff_getElem.1 hd i k h1 hlt (by omega)
        exact gt_trans this h2
  have hafter : ∀ y ∈ out.drop (insAt out r.f0), gtB y.f0 r.f0 = true := by
    intro y hy
    obtain ⟨j, hj, rfl⟩ := List.getElem_of_mem hy
    rw [List.length_drop] at hj
    rw [List.getElem_drop]
    exact aux _ (by omega) (Nat.le_add_right _ _)
  have hsplit : Sorted (out.take (insAt out r.f0) ++ out.drop (insAt out r.f0)) := by rw [List.take_append_drop]; exact hd
  have hp := List.pairwise_append.1 hsplit
  rw [List.append_assoc]
  refine List.pairwise_append.2 ⟨hp.1, ?_, ?_⟩
  · simp only [List.singleton_append]
    exact List.pairwise_cons.2 ⟨fun y hy => hafter y hy, hp.2.1⟩
  · intro x hx y hy
    rcases List.mem_append.1 hy with hy | hy
    · simp at hy; subst hy; exact hbefore x hx
    · exact hp.2.2 x hx y hy
theorem leB_gt (a b : ByteArray) : (leB a b = false) ↔ gtB a b = true := by
  unfold leB gtB
  cases Op.bytesLess a.toList b.toList <;> cases (a.toList == b.toList) <;> simp
theorem sorted_of_ok {t : ByteArray} {l : List Row} (h : okRows t l = true) : Sorted l := by
  have step : ∀ i (hi : i + 1 < l.length), gtB (l[i + 1]).f0 (l[i]'(by omega)).f0 = true := by
    intro i hi
    unfold okRows at h
    have := List.all_eq_true.1 h (i + 1) (by simpa using hi)
    unfold okRow at this
    rw [Bool.and_eq_true, Bool.or_eq_true] at this
    rcases this.2 with h2 | h2
    · simp at h2
    · rw [Nat.add_sub_cancel, getElem!_pos l (i + 1) hi, getElem!_pos l i (by omega)] at h2
      exact (leB_gt _ _).1 (by simpa using h2)
  refine List.pairwise_iff_getElem.2 (fun i j hi hj hij => ?_)
  induction j with
  | zero => omega
  | succ j ih =>
    by_cases e : i = j
    · subst e; exact step i hj
    · exact gt_trans (step j hj) (ih (by omega) (by omega))
end Go.Proofs.YtmjmcmohicjfkaaDoor.tab
