import Derived.Test.YtmjmcmohicjfkaaDoorLayA
/-
  Layout, plainly: what is put is taken as it was.
-/
namespace Go.Proofs.YtmjmcmohicjfkaaDoor.lay

theorem getD_app {pre post : List Int} {i : Nat} : (pre ++ post).getD (pre.length + i) 0 = post.getD i 0 := by
  rw [List.getD_eq_getElem?_getD, List.getD_eq_getElem?_getD, List.getElem?_append_right (Nat.le_add_right _ _), Nat.add_sub_cancel_left]
theorem at2_app {pre post : List Int} {i : Nat} : at2 (pre ++ post) (pre.length + i) = at2 post i := by
  unfold at2
  rw [getD_app, Nat.add_assoc, getD_app]
theorem at2_two {v : Int} (h0 : 0 ≤ v) (h1 : v ≤ 65535) (post : List Int) : at2 (two v ++ post) 0 = v := by
  unfold at2 two
  simp only [List.cons_append, List.getD_cons_zero, List.getD_cons_succ, Nat.zero_add]
  omega
theorem at2_twos {l post : List Int} {i : Nat} (hi : i < l.length) (h : ∀ b ∈ l, 0 ≤ b ∧ b ≤ 65535) : at2 (twos l ++ post) (2 * i) = l[i] := by
  have hsp : l = l.take i ++ l[i] :: l.drop (i + 1) := by rw [← List.drop_eq_getElem_cons hi, List.take_append_drop]
  have hb := h l[i] (List.getElem_mem hi)
  have e : twos l = twos (l.take i) ++ (two l[i] ++ twos (l.drop (i + 1))) := by
    conv => lhs; rw [hsp]
    rw [twos_append]
    rfl
  have hl : (twos (l.take i)).length = 2 * i := by rw [twos_length, List.length_take]; omega
  rw [e, List.append_assoc]
  have := at2_app (pre := twos (l.take i)) (post := two l[i] ++ twos (l.drop (i + 1)) ++ post) (i := 0)
  rw [hl] at this
  refine Eq.trans this ?_
  rw [List.append_assoc]
  exact at2_two hb.1 hb.2 _
theorem at2_zero {l : List Int} {n i : Nat} (hi : l.length ≤ i) : at2 (l ++ List.replicate n 0) i = 0 := by
  obtain ⟨j, rfl⟩ : ∃ j, i = l.length + j := ⟨i - l.length, by omega⟩
  rw [at2_app]
  unfold at2
  simp only [List.getD_eq_getElem?_getD, List.getElem?_replicate]
  split <;> split <;> simp
structure Parts (x : Ino) : Prop where
  k : (nodeBytes x).getD 0 0 = x.kind
  m : at2 (nodeBytes x) 1 = x.mode
  s : at2 (nodeBytes x) 3 = x.size
  o : at2 (nodeBytes x) 5 = x.more
  b : ∀ i, (h : i < x.blocks.length) → i < 6 → at2 (nodeBytes x) (7 + 2 * i) = x.blocks[i]
theorem parts {x : Ino} (h : mayB x = true) : Parts x := by
  obtain ⟨h1, h2, h3, h4, h5, _⟩ := mayB_parts h
  have h6 := mayB_more h
  obtain ⟨k1, k2, k3, k4⟩ := blocksP_kind h1
  have e : nodeBytes x = [x.kind % 256] ++ (two x.mode ++ (two x.size ++ (two x.more ++ (twos (x.blocks.take 6) ++ List.replicate (32 - (headBytes x ++ twos (x.blocks.take 6)).length) 0)))) := by
    unfold nodeBytes padTo headBytes
    simp only [List.append_assoc]
  generalize List.replicate (32 - (headBytes x ++ twos (x.blocks.take 6)).length) (0 : Int) = z at e
  refine ⟨?_, ?_, ?_, ?_, fun i hi hi6 => ?_⟩
  · rw [e]
    show x.kind % 256 = x.kind
    omega
  · rw [e]
    exact (at2_app (pre := [x.kind % 256]) (i := 0)).trans (at2_two h4 (by omega) _)
  · rw [e, ← List.append_assoc]
    exact (at2_app (pre := [x.kind % 256] ++ two x.mode) (i := 0)).trans (at2_two k3 (by omega) _)
  · rw [e, ← List.append_assoc, ← List.append_assoc]
    exact (at2_app (pre := [x.kind % 256] ++ two x.mode ++ two x.size) (i := 0)).trans (at2_two h6.1 (by omega) _)
  · rw [e, ← List.append_assoc, ← List.append_assoc, ← List.append_assoc]
    refine (at2_app (pre := [x.kind % 256] ++ two x.mode ++ two x.size ++ two x.more) (i := 2 * i)).trans ?_
    rw [at2_twos (by rw [List.length_take]; omega) (fun b hb => by have := h3 b (List.mem_of_mem_take hb); omega)]
    simp
theorem taken_blocks {x : Ino} (h : mayB x = true) : readNode (nodeBytes x) = { x with blocks := x.blocks.take 6 } ∧ leftOf (nodeBytes x) = max 0 ((x.blocks.length : Int) - 6) := by
  have p := parts h
  obtain ⟨h1, h2, _⟩ := mayB_parts h
  unfold readNode leftOf
  rw [p.k, p.m, p.s, p.o, h2, Int.toNat_natCast]
  refine ⟨?_, rfl⟩
  congr 1
  apply List.ext_getElem
  · simp; omega
  · intro i hi1 hi2
    simp only [List.length_map, List.length_range] at hi1
    rw [List.getElem_map, List.getElem_range, p.b i (by omega) (by omega), List.getElem_take]
theorem node_back {x : Ino} (h : mayB x = true) : takeNode (nodeBytes x) = ({ x with blocks := x.blocks.take 6 }, max 0 ((x.blocks.length : Int) - 6), 0) := by
  obtain ⟨e1, e2⟩ := taken_blocks h
  have p := parts h
  obtain ⟨h1, h2, h3, h4, h5, h6⟩ := mayB_parts h
  have hf : fullNode (nodeBytes x) = { x with blocks := x.blocks.take 6 ++ List.replicate (x.blocks.length - 6) 1 } := by
    unfold fullNode
    rw [e1, e2]
    have : (max 0 ((x.blocks.length : Int) - 6)).toNat = x.blocks.length - 6 := by omega
    rw [this]
  have hlen : (x.blocks.take 6 ++ List.replicate (x.blocks.length - 6) (1 : Int)).length = x.blocks.length := by simp; omega
  have hm : mayB (fullNode (nodeBytes x)) = true := by
    rw [hf]
    unfold mayB
    simp only [hlen]
    have hall : (x.blocks.take 6 ++ List.replicate (x.blocks.length - 6) (1 : Int)).all blockB = true := by
      rw [List.all_eq_true]
      intro b hb
      rcases List.mem_append.1 hb with hb | hb
      · have := h3 b (List.mem_of_mem_take hb)
        unfold blockB; simpa using this
      · rw [(List.mem_replicate.1 hb).2]; rfl
    rw [hall]
    unfold mayB at h
    simp only [Bool.and_eq_true] at h ⊢
    exact ⟨⟨⟨⟨⟨h.1.1.1.1.1, h.1.1.1.1.2⟩, trivial⟩, h.1.1.2⟩, h.1.2⟩, h.2⟩
  have hb : nodeBytes (fullNode (nodeBytes x)) = nodeBytes x := by
    rw [hf]
    unfold nodeBytes headBytes
    simp only
    have : (x.blocks.take 6 ++ List.replicate (x.blocks.length - 6) (1 : Int)).take 6 = x.blocks.take 6 := by
      by_cases hc : 6 ≤ x.blocks.length
      · rw [List.take_append_of_le_length (by simp; omega), List.take_take]; simp
      · rw [show x.blocks.length - 6 = 0 by omega, List.replicate_zero, List.append_nil, List.take_take]; simp
    rw [this]
  have hg : goodNode (nodeBytes x) = true := by
    unfold goodNode
    rw [hm, hb, p.k, p.s, decide_eq_true h1, decide_eq_true (node_length (x := x)), decide_eq_true rfl]
    rfl
  unfold takeNode
  rw [if_pos hg, e1, e2]
theorem more_back {x : Ino} (h : mayB x = true) (h6 : 6 < x.blocks.length) : takeMore (moreBytes x) ((x.blocks.length : Int) - 6) = (x.blocks.drop 6, 0) := by
  obtain ⟨h1, h2, h3, _⟩ := mayB_parts h
  have hr := blocksP_range x.kind x.size
  have hdl : (x.blocks.drop 6).length = x.blocks.length - 6 := List.length_drop
  have hd : ∀ b ∈ x.blocks.drop 6, 0 < b ∧ b < 4096 := fun b hb => h3 b (List.mem_of_mem_drop hb)
  have hlen : (moreBytes x).length = 64 := by
    unfold moreBytes padTo
    rw [if_pos h6, List.length_append, List.length_replicate, twos_length, hdl]; omega
  have ea : ∀ i, (hi : i < (x.blocks.drop 6).length) → at2 (moreBytes x) (2 * i) = (x.blocks.drop 6)[i] := fun i hi => by
    unfold moreBytes padTo
    rw [if_pos h6]
    exact at2_twos hi (fun b hb => by have := hd b hb; omega)
  have ez : ∀ i, (x.blocks.drop 6).length ≤ i → at2 (moreBytes x) (2 * i) = 0 := fun i hi => by
    unfold moreBytes padTo
    rw [if_pos h6]
    exact at2_zero (by rw [twos_length]; omega)
  have hok : moreOk (moreBytes x) ((x.blocks.length : Int) - 6) = true := by
    unfold moreOk
    rw [moreFrom_iff]
    intro j _ hj
    unfold okAt
    by_cases hlt : (j : Int) < (x.blocks.length : Int) - 6
    · rw [if_pos hlt, ea j (by omega)]
      have := hd _ (List.getElem_mem (show j < (x.blocks.drop 6).length by omega))
      unfold blockB; simpa using this
    · rw [if_neg hlt, ez j (by omega)]; rfl
  unfold takeMore
  rw [if_pos ⟨by simpa using hlen, by omega, by omega, hok⟩]
  congr 1
  unfold upTo
  apply List.ext_getElem
  · simp; omega
  · intro i hi1 hi2
    simp only [List.length_map, List.length_range] at hi1
    rw [List.getElem_map, List.getElem_range, ea i hi2]
end Go.Proofs.YtmjmcmohicjfkaaDoor.lay
