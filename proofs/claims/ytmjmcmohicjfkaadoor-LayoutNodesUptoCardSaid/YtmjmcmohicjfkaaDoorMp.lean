import Derived.Maps.Own
import Derived.WalkKit
set_option linter.unusedSectionVars false
namespace Go.Proofs.YtmjmcmohicjfkaaDoor.mp
open Go.RowKit Go.MapKept

/-- Keys of a kind: how they stand as values, their type's description. -/
structure KeyEnc (κ : Type) (d : TypeDesc) (enc : κ → Value) : Prop where
  key : ∀ k, IsKey d (enc k)
  inj : ∀ a b, enc a = enc b → a = b
theorem strKey : KeyEnc ByteArray .string Value.string := ⟨fun _ => trivial, fun _ _ h => by injection h⟩
theorem intKey (q : IntKind) : KeyEnc Int (.int q) (Value.int q) := ⟨fun _ => rfl, fun _ _ h => by injection h⟩

/-- Block b of w is a map that holds just L, in this order. -/
def IsMap {κ : Type} (enc : κ → Value) (w : World) (b : Nat) (L : List (κ × Value)) : Prop :=
  ∃ es clock, w.heap[b]? = some (.map es clock) ∧ es.toList.map (fun e => (e.key, e.val)) = L.map fun p => (enc p.1, p.2)

def aget {κ α : Type} [DecidableEq κ] (L : List (κ × α)) (k : κ) : Option α := (L.find? fun p => decide (p.1 = k)).map (·.2)
/-- k's value is v: in the old place, or behind all others. -/
def aset {κ α : Type} [DecidableEq κ] : List (κ × α) → κ → α → List (κ × α)
  | [], k, v => [(k, v)]
  | p :: L, k, v => if p.1 = k then (k, v) :: L else p :: aset L k v
def adel {κ α : Type} [DecidableEq κ] : List (κ × α) → κ → List (κ × α)
  | [], _ => []
  | p :: L, k => if p.1 = k then L else p :: adel L k

section
variable {κ : Type} [DecidableEq κ] {d : TypeDesc} {enc : κ → Value} {w : World} {b : Nat} {L : List (κ × Value)}

theorem IsMap.lt (h : IsMap enc w b L) : b < w.heap.size := by
  obtain ⟨es, clock, hb, _⟩ := h
  exact (Array.getElem?_eq_some_iff.1 hb).1
theorem IsMap.of_block {w' : World} (h : IsMap enc w b L) (hb : w'.heap[b]? = w.heap[b]?) : IsMap enc w' b L := by
  obtain ⟨es, clock, h1, h2⟩ := h
  exact ⟨es, clock, hb.trans h1, h2⟩
theorem IsMap.below {w' : World} {B : Nat} (h : IsMap enc w b L) (hb : Below B w w') (hB : b < B) : IsMap enc w' b L := h.of_block (hb.block b hB)
theorem IsMap.made (w : World) : IsMap enc (w.alloc (.map #[] 0)) w.heap.size ([] : List (κ × Value)) := ⟨#[], 0, (MapKept.heap_alloc w _).1, rfl⟩

theorem find_spec (K : KeyEnc κ d enc) (k : κ) : ∀ (l : List MapEntry) (L : List (κ × Value)) (i : Nat), l.map (fun e => (e.key, e.val)) = L.map (fun p => (enc p.1, p.2)) →
    (Instr.findNow d (enc k) l i = some none ∧ aget L k = none ∧ ∀ x ∈ l, x.key ≠ enc k) ∨
    (∃ j e, Instr.findNow d (enc k) l i = some (some (i + j, e.val)) ∧ l[j]? = some e ∧ e.key = enc k ∧ aget L k = some e.val ∧ ∀ j' e', j' < j → l[j']? = some e' → e'.key ≠ enc k)
  | [], L, i, h => by
    have : L = [] := by simpa using h.symm
    subst this
    exact .inl ⟨rfl, rfl, by simp⟩
  | e :: es, [], i, h => by simp at h
  | e :: es, p :: L, i, h => by
    simp only [List.map_cons, List.cons.injEq, Prod.mk.injEq] at h
    obtain ⟨⟨hk, hv⟩, ht⟩ := h
    obtain ⟨r, hr, hiff⟩ := sameNow_of_keys (K.key k) (show IsKey d e.key by rw [hk]; exact K.key _)
    cases r with
    | true =>
      have he : e.key = enc k := (hiff.1 rfl).symm
      have hpk : p.1 = k := K.inj _ _ (hk.symm.trans he)
      exact .inr ⟨0, e, by simp [Instr.findNow, hr], rfl, he, by simp [aget, List.find?, hpk, hv], fun j' _ hj => by omega⟩
    | false =>
      have hne : e.key ≠ enc k := fun q => by have := hiff.2 q.symm; cases this
      have hpk : p.1 ≠ k := fun q => hne (by rw [hk, q])
      have hag : aget (p :: L) k = aget L k := by simp [aget, List.find?, hpk]
      rcases find_spec K k es L (i + 1) ht with ⟨h1, h2, h3⟩ | ⟨j, e', h1, h2, h3, h4, h5⟩
      · exact .inl ⟨by simp [Instr.findNow, hr, h1], by rw [hag]; exact h2, fun x hx => by
          cases hx with
          | head => exact hne
          | tail _ hx => exact h3 x hx⟩
      · exact .inr ⟨j + 1, e', by simp [Instr.findNow, hr, h1]; omega, by simpa using h2, h3, by rw [hag]; exact h4, fun j' e2 hj he2 => by
          cases j' with
          | zero => simp at he2; subst he2; exact hne
          | succ j' => exact h5 j' e2 (by omega) (by simpa using he2)⟩

/-- m[k], m[k] with ok. -/
theorem run_lookup {P : Program} {t kt et : TypeId} (K : KeyEnc κ d enc) (ht : P.underlying t = some (.map kt et)) (hd : P.underlying kt = some d) {z : Value} (hz : (zeroValue et).run P w = .ok z w)
    (h : IsMap enc w b L) (k : κ) (ok : Bool) : (Instr.lookup t (.map (some b)) (enc k) ok).run P w = .ok (if ok then .tuple #[(aget L k).getD z, .bool (aget L k).isSome] else (aget L k).getD z) w := by
  obtain ⟨es, clock, hb, hL⟩ := h
  rcases find_spec K k es.toList L 0 hL with ⟨h1, h2, _⟩ | ⟨j, e, h1, _, _, h4, _⟩
  · simp only [Instr.lookup, Sem.run_bind, run_underlying ht, MapKept.run_getObj_map hb, run_checkKey hd (K.key k), run_findKey hd h1, Result.andThen, h2, hz, Sem.run_pure]
    cases ok <;> simp
  · simp only [Instr.lookup, Sem.run_bind, run_underlying ht, MapKept.run_getObj_map hb, run_checkKey hd (K.key k), run_findKey hd h1, Result.andThen, h4, Sem.run_pure]
    cases ok <;> simp
/-- .. of a nil map. -/
theorem run_lookup_nil {P : Program} {t kt et : TypeId} (K : KeyEnc κ d enc) (ht : P.underlying t = some (.map kt et)) (hd : P.underlying kt = some d) {z : Value} (hz : (zeroValue et).run P w = .ok z w)
    (k : κ) (ok : Bool) : (Instr.lookup t (.map none) (enc k) ok).run P w = .ok (if ok then .tuple #[z, .bool false] else z) w := by
  have h1 : Instr.findNow d (enc k) [] 0 = some none := rfl
  simp only [Instr.lookup, Sem.run_bind, run_underlying ht, run_checkKey hd (K.key k), run_findKey hd h1, Result.andThen, hz, Sem.run_pure]

theorem aset_spec (K : KeyEnc κ d enc) (k : κ) (v : Value) : ∀ (l : List MapEntry) (L : List (κ × Value)) (j : Nat) (e : MapEntry), l.map (fun e => (e.key, e.val)) = L.map (fun p => (enc p.1, p.2)) →
    l[j]? = some e → e.key = enc k → (∀ j' e', j' < j → l[j']? = some e' → e'.key ≠ enc k) → (l.modify j fun e => { e with key := enc k, val := v }).map (fun e => (e.key, e.val)) = (aset L k v).map fun p => (enc p.1, p.2)
  | [], L, j, e, _, hj, _, _ => by simp at hj
  | x :: l, [], j, e, h, _, _, _ => by simp at h
  | x :: l, p :: L, j, e, h, hj, he, hf => by
    simp only [List.map_cons, List.cons.injEq, Prod.mk.injEq] at h
    obtain ⟨⟨hk, hv⟩, ht⟩ := h
    cases j with
    | zero =>
      simp at hj; subst hj
      have hpk : p.1 = k := K.inj _ _ (hk.symm.trans he)
      simp [aset, hpk, ht]
    | succ j =>
      have hne : x.key ≠ enc k := hf 0 x (by omega) rfl
      have hpk : p.1 ≠ k := fun q => hne (by rw [hk, q])
      have ih := aset_spec K k v l L j e ht (by simpa using hj) he (fun j' e' hj' he' => hf (j' + 1) e' (by omega) (by simpa using he'))
      simp [aset, hpk, hk, hv, ih]
theorem aset_push (K : KeyEnc κ d enc) (k : κ) (v : Value) : ∀ (l : List MapEntry) (L : List (κ × Value)), l.map (fun e => (e.key, e.val)) = L.map (fun p => (enc p.1, p.2)) → (∀ x ∈ l, x.key ≠ enc k) → aset L k v = L ++ [(k, v)]
  | [], L, h, _ => by
    have : L = [] := by simpa using h.symm
    subst this; rfl
  | x :: l, [], h, _ => by simp at h
  | x :: l, p :: L, h, hf => by
    simp only [List.map_cons, List.cons.injEq, Prod.mk.injEq] at h
    obtain ⟨⟨hk, hv⟩, ht⟩ := h
    have hpk : p.1 ≠ k := fun q => hf x (by simp) (by rw [hk, q])
    simp [aset, hpk, aset_push K k v l L ht (fun y hy => hf y (by simp [hy]))]

/-- m[k] = v. -/
theorem IsMap.update {P : Program} {t kt et : TypeId} (K : KeyEnc κ d enc) (ht : P.underlying t = some (.map kt et)) (hd : P.underlying kt = some d)
    (h : IsMap enc w b L) (k : κ) (v : Value) : ∃ w', (Instr.mapUpdate t (.map (some b)) (enc k) v).run P w = .ok () w' ∧ IsMap enc w' b (aset L k v) ∧ w.grownBy w' (some b) ∧ w'.heap.size = w.heap.size := by
  obtain ⟨es, clock, hb, hL⟩ := h
  rcases find_spec K k es.toList L 0 hL with ⟨h1, h2, h3⟩ | ⟨j, e, h1, h2, h3, h4, h5⟩
  · refine ⟨{ w with heap := w.heap.setIfInBounds b (.map (es.push { key := enc k, val := v, born := clock }) (clock + 1)) }, by simp only [Instr.mapUpdate, Sem.run_bind, run_underlying ht, MapKept.run_getObj_map hb, run_checkKey hd (K.key k), run_findKey hd h1, Result.andThen]; exact run_setObj_map _ hb, ⟨_, _, (heap_set hb).1, ?_⟩, ⟨rfl, rfl, rfl, by simp, fun i hi hne => (heap_set hb).2 i (fun e => hne (by rw [e]))⟩, by simp⟩
    rw [aset_push K k v _ _ hL h3]
    simp [hL]
  · have hj : es[j]? = some e := by simpa using h2
    refine ⟨{ w with heap := w.heap.setIfInBounds b (.map (es.modify j fun e => { e with key := enc k, val := v }) clock) }, by simp only [Instr.mapUpdate, Sem.run_bind, run_underlying ht, MapKept.run_getObj_map hb, run_checkKey hd (K.key k), run_findKey hd h1, Result.andThen, Nat.zero_add, hj, Option.map_some, Option.getD_some, h3, run_keyThatStays (K.key k)]; exact run_setObj_map _ hb, ⟨_, _, (heap_set hb).1, ?_⟩, ⟨rfl, rfl, rfl, by simp, fun i hi hne => (heap_set hb).2 i (fun e => hne (by rw [e]))⟩, by simp⟩
    rw [Array.toList_modify]
    exact aset_spec K k v _ _ j e hL h2 h3 h5

theorem wp_insert {P : Program} (w : World) {ops : Array Oper} {rest : List Oper} {o : Oper} {a : Act} {Q : Exit → Act → World → Prop}
    (hg : o.guard = none) (m x v : Operand) (t : TypeId) (hop : o.op = Op.insert t m x v) (kt et : TypeId) (K : KeyEnc κ d enc) (ht : P.underlying t = some (.map kt et)) (hd : P.underlying kt = some d)
    (b : Nat) (L : List (κ × Value)) (hm : a.eval m = .map (some b)) (h : IsMap enc w b L) (k : κ) (val : Value) (hx : a.eval x = enc k) (hv : a.eval v = val)
    (hK : ∀ w', IsMap enc w' b (aset L k val) → w.grownBy w' (some b) → w'.heap.size = w.heap.size → wpList P ops Q rest (a.put o.dst undef) w') : wpList P ops Q (o :: rest) a w := by
  refine wpList_plain hg fun K' hK' => ?_
  obtain ⟨w', hrun, r1, r2, r3⟩ := h.update K ht hd k val
  unfold Oper.wp
  simp [execOp, hop, hm, hx, hv, hrun, Result.andThen]
  exact hK' _ _ (hK w' r1 r2 r3)
theorem wp_mapUpdate {P : Program} (w : World) {ops : Array Oper} {rest : List Oper} {o : Oper} {a : Act} {Q : Exit → Act → World → Prop}
    (hg : o.guard = none) (m x v : Operand) (t : TypeId) (hop : o.op = Op.mapUpdate t m x v) (kt et : TypeId) (K : KeyEnc κ d enc) (ht : P.underlying t = some (.map kt et)) (hd : P.underlying kt = some d)
    (b : Nat) (L : List (κ × Value)) (hm : a.eval m = .map (some b)) (h : IsMap enc w b L) (k : κ) (val : Value) (hx : a.eval x = enc k) (hv : a.eval v = val)
    (hK : ∀ w', IsMap enc w' b (aset L k val) → w.grownBy w' (some b) → w'.heap.size = w.heap.size → wpList P ops Q rest (a.put o.dst undef) w') : wpList P ops Q (o :: rest) a w := by
  refine wpList_plain hg fun K' hK' => ?_
  obtain ⟨w', hrun, r1, r2, r3⟩ := h.update K ht hd k val
  unfold Oper.wp
  simp [execOp, hop, hm, hx, hv, hrun, Result.andThen]
  exact hK' _ _ (hK w' r1 r2 r3)
end
end Go.Proofs.YtmjmcmohicjfkaaDoor.mp
