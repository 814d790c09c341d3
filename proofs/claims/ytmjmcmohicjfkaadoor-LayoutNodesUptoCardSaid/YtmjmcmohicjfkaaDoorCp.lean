import Derived.Test.YtmjmcmohicjfkaaDoorProg
import Derived.Test.YtmjmcmohicjfkaaDoorWMore
import Derived.Laws.IdiomCopy
import Derived.Lib.Overlaps
import Derived.Lib.AppendZerosOnto
import Derived.Lib.JoinLaws
import Derived.WalkKit
/-
  copy into a block, elements of any number of cells; laws of no program.
-/
namespace Go.Proofs.YtmjmcmohicjfkaaDoor.cp
open Go.RowKit Go.Proofs.YtmjmcmohicjfkaaDoorW.PrintWords
variable {P : Program}

/-- cs from o on. -/
def over (cur : List Value) (o : Nat) (cs : List Value) : List Value := cur.take o ++ cs ++ cur.drop (o + cs.length)
theorem over_length {cur : List Value} {o : Nat} {cs : List Value} (h : o + cs.length ≤ cur.length) : (over cur o cs).length = cur.length := by
  unfold over
  simp only [List.length_append, List.length_take, List.length_drop]
  omega
theorem setCells_blk {g : Nat} {t : TypeId} : ∀ (cs : List Value) (o : Nat) (w : World) (cur : Array Value), w.heap[g]? = some (.cells cur t (0, 0)) → o + cs.length ≤ cur.size →
    ∃ cur' : Array Value, (w.setCells g o cs).heap[g]? = some (.cells cur' t (0, 0)) ∧ cur'.toList = over cur.toList o cs
  | [], o, w, cur, h, _ => ⟨cur, h, by simp [over]⟩
  | v :: r, o, w, cur, h, hl => by
    simp only [List.length_cons] at hl
    obtain ⟨cur', h1, h2⟩ := setCells_blk r (o + 1) (w.setCell ⟨g, o, none⟩ v) (cur.setIfInBounds o v) (blk_set h o v) (by simp; omega)
    refine ⟨cur', h1, ?_⟩
    rw [h2]
    unfold over
    have e : (cur.setIfInBounds o v).toList = cur.toList.set o v := by simp
    rw [e]
    have hol : o < cur.toList.length := by rw [Array.length_toList]; omega
    have e1 : (cur.toList.set o v).take (o + 1) = cur.toList.take o ++ [v] := by
      rw [List.take_succ_eq_append_getElem (by simpa using hol), List.take_set_of_le (Nat.le_refl _)]
      simp
    have e2 : (cur.toList.set o v).drop (o + 1 + r.length) = cur.toList.drop (o + (v :: r).length) := by
      rw [List.drop_set_of_lt (by omega)]
      congr 1
      simp; omega
    rw [e1, e2]
    simp
theorem setCells_grown {g : Nat} : ∀ (cs : List Value) (o : Nat) (w : World), w.grownBy (w.setCells g o cs) (some g)
  | [], o, w => World.grownBy.refl w _
  | v :: r, o, w => by
    have h := setCells_grown (g := g) r (o + 1) (w.setCell ⟨g, o, none⟩ v)
    refine ⟨h.os, h.tape, h.output, ?_, fun k hk hne => ?_⟩
    · show w.heap.size ≤ ((w.setCell ⟨g, o, none⟩ v).setCells g (o + 1) r).heap.size
      have := h.size
      simpa using this
    · rw [show (w.setCells g o (v :: r)) = (w.setCell ⟨g, o, none⟩ v).setCells g (o + 1) r from rfl, h.block k (by simpa using hk) hne]
      exact Below.heap_setCell w ⟨g, o, none⟩ v k (fun e => hne (by rw [e]))
theorem setCells_size {g : Nat} : ∀ (cs : List Value) (o : Nat) (w : World), (w.setCells g o cs).heap.size = w.heap.size
  | [], _, _ => rfl
  | v :: r, o, w => by
    rw [show (w.setCells g o (v :: r)) = (w.setCell ⟨g, o, none⟩ v).setCells g (o + 1) r from rfl, setCells_size r]
    simp

/-- copy: all is read before anything is written. -/
theorem run_copy_blk (w : World) (dT sT ty elem : TypeId) (g o dLen dCap : Nat) (a : Addr) (sLen sCap size : Nat) (cs : List Value) (cur : Array Value) (t : TypeId)
    (hu : P.underlying dT = some (.slice elem)) (hs : (P.info? elem).map (·.size) = some size) (hn : cs.length = Nat.min sLen dLen * size)
    (hsrc : ∀ j v, cs[j]? = some v → w.cell? (a.add j) = some v) (hb : w.heap[g]? = some (.cells cur t (0, 0))) (hl : o + cs.length ≤ cur.size) (h1 : ∀ v ∈ cs, v.oneCell' = true) :
    (Builtin.copy_ #[dT, sT] ty #[.slice (some ⟨g, o, none⟩) dLen dCap, .slice (some a) sLen sCap]).run P w = .ok (goInt (Nat.min sLen dLen)) (w.setCells g o cs) := by
  have hld := run_firstCells_some (P := P) (w := w) size (Nat.min sLen dLen) a sLen sCap cs hn hsrc
  have hst := run_storeCells_cells (P := P) g o cs 0 w (fun j hj => by rw [Nat.add_zero, blk_cell hb]; simp; omega) (fun j hj => blk_frozen hb _) h1
  cases hq : P.info? elem with
  | none => simp [hq] at hs
  | some i =>
    have hi : i.size = size := by simpa [hq] using hs
    simp [Builtin.copy_, run_underlying hu, Builtin.lenOf, sizeOf, typeInfo, hq, hi, hld, hst]
theorem wp_copy_run (w : World) {o : Oper} {a : Act} {K : Act → World → Prop} {Q : Exit → Act → World → Prop} (d s : Operand) (t t' : TypeId)
    (ho : o.op = .call { callee := .builtin .copy, args := #[d, s], argTypes := #[t, t'] }) (v u : Value) (hd : a.eval d = v) (hs : a.eval s = u) {v' : Value} {w' : World}
    (hr : (Builtin.copy_ #[t, t'] o.type #[v, u]).run P w = .ok v' w') (h : K (a.put o.dst v') w') : o.wp P a w K Q := by
  unfold Oper.wp execOp
  simp only [ho, resolve, invoke, builtin, Sem.run_bind, Sem.run_pure, Result.andThen_ok, List.map_toArray, List.map_cons, List.map_nil, hd, hs, hr]
  exact h
theorem wpList_copy_run (w : World) {ops : Array Oper} {rest : List Oper} {o : Oper} {a : Act} {Q : Exit → Act → World → Prop} (hgd : o.guard = none) (d s : Operand) (t t' : TypeId)
    (ho : o.op = .call { callee := .builtin .copy, args := #[d, s], argTypes := #[t, t'] }) (v u : Value) (hd : a.eval d = v) (hs : a.eval s = u) {v' : Value} {w' : World}
    (hr : (Builtin.copy_ #[t, t'] o.type #[v, u]).run P w = .ok v' w') (h : wpList P ops Q rest (a.put o.dst v') w') : wpList P ops Q (o :: rest) a w :=
  wpList_plain hgd fun _ hK => wp_copy_run w d s t t' ho v u hd hs hr (hK _ _ h)
end Go.Proofs.YtmjmcmohicjfkaaDoor.cp
