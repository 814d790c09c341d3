import Derived.Test.YtmjmcmohicjfkaaDoorLayO
import Derived.Test.YtmjmcmohicjfkaaDoorBulk
import Derived.ChangeSlices
import Derived.OpenShut
import Derived.Lib.SmallJoins
import Derived.Lib.LaidU8
/-
  Layout: an inode as an argument; the table of shapes out of the row's list.
-/
namespace Go.Proofs.YtmjmcmohicjfkaaDoor.lay
open Go.ChangeShapes Go.WideShapes Go.RowKit Go.Shelf Go.Deep Go.Joins Go.Proofs.YtmjmcmohicjfkaaDoorW.PrintWords Go.Proofs.YtmjmcmohicjfkaaDoor.tab
section
variable {H : Type} {enc : TypeId × Value → H} {W : World} {base : Nat} {sp : Nat → Bool} {held : Bool}

theorem int_of_open {k : IntKind} {t e : TypeId} {fuel : Nat} {cs : List Value} {x : DataW H × List MemPlace} (ht : Tryd.prog.underlying t = some (.slice e)) (he : Tryd.prog.underlying e = some (.int k)) (hc : Tryd.prog.cellsOf e = 1)
    (h : DataW.trod enc Tryd.prog W base sp held fuel t cs = some x) :
    ∃ A c, ∃ zs : List Int, cs = [.slice A zs.length c] ∧ zs.length ≤ c ∧ (Kd.int k).C W A zs.length zs ∧ (∀ z ∈ zs, (Lit.int k z).wf = true) ∧ zs.length ≤ Rows.uptoBulk x.1 := by
  rcases open_ints ht he hc h with ⟨rfl, rfl⟩ | ⟨a, len, cap, zs, rfl, hb, hl, hm, hz, rfl, hx, hw⟩
  · exact ⟨none, 0, [], rfl, Nat.le_refl _, ⟨rfl, by simp, fun h => by simp at h⟩, by simp, by simp⟩
  · have hml : maxLen = 9223372036854775807 := by decide
    have hlz : len ≤ zs.length := by rw [hz]; split <;> omega
    have hlt : (zs.take len).length = len := by simp; omega
    have hbk := bulks.slice_le (H := H) (lits k (zs.take len)) (lits k (zs.drop len))
    have hll : (lits (H := H) k (zs.take len)).length = len := by unfold lits; rw [List.length_map, hlt]
    refine ⟨some a, cap, zs.take len, by rw [hlt], by omega, ⟨rfl, by omega, fun _ => ⟨a, rfl, fun j p hj => ⟨[.int k p], rfl, rfl, fun i u hu => ?_⟩⟩⟩, fun z hzz => hw z (List.mem_of_mem_take hzz), ?_⟩
    · obtain ⟨rfl, rfl⟩ : i = 0 ∧ u = .int k p := by
        cases i with
        | zero => exact ⟨rfl, by simpa using hu.symm⟩
        | succ i => simp at hu
      obtain ⟨hj1, hj2⟩ := List.getElem?_eq_some_iff.1 hj
      rw [hlt] at hj1
      rw [Nat.add_zero, show j * (Kd.int k).sz = j from Nat.mul_one j, hx j (by omega)]
      rw [← hj2]
      simp [List.getD_eq_getElem?_getD]
      rw [List.getElem?_eq_getElem (by omega)]; rfl
    · show (zs.take len).length ≤ Rows.uptoBulk (DataW.slice _ _)
      rw [hlt]; omega
theorem array5 {α : Type} {cs : Array α} (h : cs.size = 5) : ∃ c0 c1 c2 c3 c4, cs = #[c0, c1, c2, c3, c4] := by
  obtain ⟨l⟩ := cs
  match l, h with
  | [c0, c1, c2, c3, c4], _ => exact ⟨c0, c1, c2, c3, c4, rfl⟩
theorem list5 {α : Type} {cs : List α} (h : cs.length = 5) : ∃ c0 c1 c2 c3 c4, cs = [c0, c1, c2, c3, c4] := by
  match cs, h with
  | [c0, c1, c2, c3, c4], _ => exact ⟨c0, c1, c2, c3, c4, rfl⟩
theorem rest5 (y0 y1 y2 y3 y4 : DataW H × List MemPlace) : (DataW.agg ([y0, y1, y2, y3, y4].map (·.1)), [y0, y1, y2, y3, y4].flatMap (·.2)) = (DataW.agg [y0.1, y1.1, y2.1, y3.1, y4.1], y0.2 ++ (y1.2 ++ (y2.2 ++ (y3.2 ++ y4.2)))) := by simp
theorem trod_struct5 {P : Program} {t : TypeId} {f0 f1 f2 f3 f4 : Field} {fuel : Nat} {cs : List Value} {x : DataW H × List MemPlace} (ht : P.underlying t = some (.struct #[f0, f1, f2, f3, f4])) (h : DataW.trod enc P W base sp held fuel t cs = some x) :
    ∃ y0 y1 y2 y3 y4 n, x = (.agg [y0.1, y1.1, y2.1, y3.1, y4.1], y0.2 ++ (y1.2 ++ (y2.2 ++ (y3.2 ++ y4.2)))) ∧ DataW.trod enc P W base sp held n f0.type ((cs.drop f0.offset).take (P.cellsOf f0.type)) = some y0 ∧
      DataW.trod enc P W base sp held n f1.type ((cs.drop f1.offset).take (P.cellsOf f1.type)) = some y1 ∧ DataW.trod enc P W base sp held n f2.type ((cs.drop f2.offset).take (P.cellsOf f2.type)) = some y2 ∧
      DataW.trod enc P W base sp held n f3.type ((cs.drop f3.offset).take (P.cellsOf f3.type)) = some y3 ∧ DataW.trod enc P W base sp held n f4.type ((cs.drop f4.offset).take (P.cellsOf f4.type)) = some y4 := by
  obtain ⟨xs, n, _, rfl, hl, hlen, hf⟩ := DataW.trod_struct ht h
  obtain ⟨y0, y1, y2, y3, y4, rfl⟩ := list5 hlen
  have g0 := hf 0 f0 rfl
  have g1 := hf 1 f1 rfl
  have g2 := hf 2 f2 rfl
  have g3 := hf 3 f3 rfl
  have g4 := hf 4 f4 rfl
  clear hf hl hlen ht h
  exact ⟨y0, y1, y2, y3, y4, n, rest5 y0 y1 y2 y3 y4, g0, g1, g2, g3, g4⟩
theorem open_agg5 {P : Program} {r : Reach} {b0 : Nat} {t : TypeId} {f0 f1 f2 f3 f4 : Field} {v : Value} {d : DataW H} {p : List MemPlace} (hs : P.underlying t = some (.struct #[f0, f1, f2, f3, f4])) (hone : oneCellFields P #[f0, f1, f2, f3, f4] = true) (hC : P.cellsOf t = 5)
    (hv : Value.okWide P W r b0 t v) (h : DataW.Trod enc P W base sp held t v d p) :
    ∃ (v0 v1 v2 v3 v4 : Value) (y0 y1 y2 y3 y4 : DataW H × List MemPlace) (n : Nat), v = .agg #[v0, v1, v2, v3, v4] ∧ d = .agg [y0.1, y1.1, y2.1, y3.1, y4.1] ∧
      DataW.trod enc P W base sp held n f0.type [v0] = some y0 ∧ DataW.trod enc P W base sp held n f1.type [v1] = some y1 ∧ DataW.trod enc P W base sp held n f2.type [v2] = some y2 ∧
      DataW.trod enc P W base sp held n f3.type [v3] = some y3 ∧ DataW.trod enc P W base sp held n f4.type [v4] = some y4 := by
  obtain ⟨cs, rfl, hsz⟩ := okWide_struct hs hv
  obtain ⟨c0, c1, c2, c3, c4, rfl⟩ := array5 (hsz.trans hC)
  obtain ⟨fuel, hf⟩ := h
  obtain ⟨y0, y1, y2, y3, y4, n, hx, h0, h1, h2, h3, h4⟩ := trod_struct5 hs hf
  obtain ⟨o0, k0⟩ := hone_of hone 0 f0 rfl
  obtain ⟨o1, k1⟩ := hone_of hone 1 f1 rfl
  obtain ⟨o2, k2⟩ := hone_of hone 2 f2 rfl
  obtain ⟨o3, k3⟩ := hone_of hone 3 f3 rfl
  obtain ⟨o4, k4⟩ := hone_of hone 4 f4 rfl
  simp only [Prod.mk.injEq] at hx
  exact ⟨c0, c1, c2, c3, c4, y0, y1, y2, y3, y4, n, rfl, hx.1, by simpa [Value.cells, o0, k0] using h0, by simpa [Value.cells, o1, k1] using h1, by simpa [Value.cells, o2, k2] using h2, by simpa [Value.cells, o3, k3] using h3, by simpa [Value.cells, o4, k4] using h4⟩
set_option maxRecDepth 100000 in
/-- An inode, by value. -/
theorem ino_read {r : Reach} {b0 : Nat} {v : Value} {d : DataW H} {p : List MemPlace} (hv : Value.okWide Tryd.prog W r b0 32 v) (h : DataW.Trod enc Tryd.prog W base sp held 32 v d p) :
    ∃ (x : Ino) (A : Option Addr) (c : Nat), v = .agg #[.int .i64 x.kind, .int .i64 x.mode, .int .i64 x.size, .slice A x.blocks.length c, .int .i64 x.more] ∧ x.blocks.length ≤ c ∧ (Kd.int .i64).C W A x.blocks.length x.blocks ∧ x.blocks.length ≤ Rows.uptoBulk d := by
  obtain ⟨v0, v1, v2, v3, v4, y0, y1, y2, y3, y4, n, rfl, rfl, h0, h1, h2, h3, h4⟩ := open_agg5 Tryd.underlying32 (by kernel_rfl) (by kernel_rfl) hv h
  obtain ⟨k, e0, _, _⟩ := DataW.trod_int Tryd.underlying3 h0
  obtain ⟨md, e1, _, _⟩ := DataW.trod_int Tryd.underlying3 h1
  obtain ⟨sz, e2, _, _⟩ := DataW.trod_int Tryd.underlying3 h2
  obtain ⟨A, c, xs, e3, hc, hC, _, hb⟩ := int_of_open Tryd.underlying30 Tryd.underlying3 (by kernel_rfl) h3
  obtain ⟨mo, e4, _, _⟩ := DataW.trod_int Tryd.underlying3 h4
  simp only [List.cons.injEq, and_true] at e0 e1 e2 e3 e4
  subst e0; subst e1; subst e2; subst e3; subst e4
  refine ⟨⟨k, md, sz, xs, mo⟩, A, c, rfl, hc, hC, ?_⟩
  simp only [Rows.uptoBulk, Rows.uptoBulkAll]
  show xs.length ≤ _
  omega
end

theorem gShapes : Tryd.prog.globalNamed "majordomo/layout.shapes" = some 0 := by kernel_rfl
theorem gShapesType : (Tryd.prog.globals[0]?).map (·.type) = some 114 := by kernel_rfl
theorem cellsShape : Tryd.prog.cellsOf 113 = 2 := by kernel_rfl
theorem shapeFields : ∃ fs, Tryd.prog.underlying 113 = some (.struct fs) ∧ fs.size = 2 ∧ ∀ (i : Nat) (f : Field), fs[i]? = some f → Tryd.prog.underlying f.type = some (.int .i64) ∧ f.offset = i ∧ Tryd.prog.cellsOf f.type = 1 := by
  refine ⟨_, Tryd.underlying113, rfl, fun i f hf => ?_⟩
  match i, hf with
  | 0, hf => cases hf; exact ⟨Tryd.underlying3, rfl, by kernel_rfl⟩
  | 1, hf => cases hf; exact ⟨Tryd.underlying3, rfl, by kernel_rfl⟩
  | i + 2, hf => simp at hf
theorem shape_cells {w : World} {cs : Array Value} {fuel : Nat} {p : List MemPlace} (hv : w.var? Tryd.prog "majordomo/layout.shapes" = some cs) (h : DataW.trod (fun _ => ()) Tryd.prog w 0 (fun _ => true) false fuel 114 cs.toList = some (Rows.laid_majordomo_layout_shapes, p))
    (i : Nat) (hi : i < 4) (a b : Int) (hd : [DataW.agg [.lit (.int .i64 0), .lit (.int .i64 0)], .agg [.lit (.int .i64 2432), .lit (.int .i64 64)], .agg [.lit (.int .i64 16), .lit (.int .i64 2)], .agg [.lit (.int .i64 120), .lit (.int .i64 64)]][i]? = some (DataW.agg (H := Unit) ([a, b].map fun z => .lit (.int .i64 z)))) :
    w.cell? ⟨0, 2 * i, none⟩ = some (.int .i64 a) ∧ w.cell? ⟨0, 2 * i + 1, none⟩ = some (.int .i64 b) := by
  obtain ⟨fs, hu, hsz, hf⟩ := shapeFields
  obtain ⟨fuel', d, q, hd', h'⟩ := Lib.array_elem Tryd.underlying114 (show DataW.trod (fun _ => ()) Tryd.prog w 0 (fun _ => true) false fuel 114 cs.toList = some (.agg [DataW.agg [.lit (.int .i64 0), .lit (.int .i64 0)], .agg [.lit (.int .i64 2432), .lit (.int .i64 64)], .agg [.lit (.int .i64 16), .lit (.int .i64 2)], .agg [.lit (.int .i64 120), .lit (.int .i64 64)]], p) from h) i hi
  obtain rfl := Option.some.inj (hd.symm.trans hd')
  have hc := Lib.ints_of_struct hu hf (by rw [hsz, cellsShape]) h'
  rw [cellsShape] at hc
  have h0 := congrArg (·[0]?) hc
  have h1 := congrArg (·[1]?) hc
  simp [List.getElem?_drop] at h0 h1
  rw [World.var?_cell gShapes hv (2 * i), World.var?_cell gShapes hv (2 * i + 1)]
  exact ⟨by rw [Nat.mul_comm]; exact h0, by rw [Nat.mul_comm]; exact h1⟩
/-- What the row's list gives. -/
theorem shapes_of {w : World} (h : laidMet Tryd.prog Rows.layoutNodesUptoRow.laid w) : Shapes w := by
  obtain ⟨g, t, cs, fuel, p, hg, ht, hv, hd⟩ := Lib.laidMet.reads h (n := "majordomo/layout.shapes") (d := Rows.laid_majordomo_layout_shapes) (.tail _ (.head _))
  obtain rfl := Option.some.inj (gShapes.symm.trans hg)
  obtain rfl := Option.some.inj (gShapesType.symm.trans ht)
  have s1 := shape_cells hv hd 1 (by decide) 2432 64 rfl
  have s2 := shape_cells hv hd 2 (by decide) 16 2 rfl
  have s3 := shape_cells hv hd 3 (by decide) 120 64 rfl
  exact ⟨s1.1, s1.2, s2.1, s2.2, s3.1, s3.2⟩
end Go.Proofs.YtmjmcmohicjfkaaDoor.lay
