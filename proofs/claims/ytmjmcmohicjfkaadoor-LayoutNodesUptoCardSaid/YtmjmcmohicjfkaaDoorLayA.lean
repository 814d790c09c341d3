import Derived.Test.YtmjmcmohicjfkaaDoorWWords
/-
  Layout, plainly: nodes as bytes.
-/
namespace Go.Proofs.YtmjmcmohicjfkaaDoor.lay
open Go.Proofs.YtmjmcmohicjfkaaDoorW.PrintWords

structure Ino where
  kind : Int
  mode : Int
  size : Int
  blocks : List Int
  more : Int
def Ino.zero : Ino := ⟨0, 0, 0, [], 0⟩
/-- How many blocks, without the one more. -/
def blocksP (k s : Int) : Int := if s < 0 then -1 else if k = 1 then (if s ≤ 2432 then (s + 63) / 64 else -1) else if k = 2 then (if s ≤ 16 then (s + 1) / 2 else -1) else if k = 3 then (if s ≤ 120 then (s + 63) / 64 else -1) else -1
theorem blocksP_range (k s : Int) : -1 ≤ blocksP k s ∧ blocksP k s ≤ 38 := by
  unfold blocksP
  repeat' split
  all_goals omega
theorem blocksP_kind {k s : Int} (h : 0 ≤ blocksP k s) : 1 ≤ k ∧ k ≤ 3 ∧ 0 ≤ s ∧ s ≤ 2432 := by
  unfold blocksP at h
  repeat' split at h
  all_goals omega
def blockB (n : Int) : Bool := decide (0 < n ∧ n < 4096)
def mayB (x : Ino) : Bool :=
  decide (0 ≤ blocksP x.kind x.size) && decide (blocksP x.kind x.size = (x.blocks.length : Int)) && x.blocks.all blockB && decide (0 ≤ x.mode) && decide (x.mode ≤ 4095) &&
    (if 6 < blocksP x.kind x.size then blockB x.more else decide (x.more = 0))
def two (n : Int) : List Int := [n / 256 % 256, n % 256]
def twos (l : List Int) : List Int := l.flatMap two
def padTo (l : List Int) (n : Nat) : List Int := l ++ List.replicate (n - l.length) 0
def headBytes (x : Ino) : List Int := [x.kind % 256] ++ two x.mode ++ two x.size ++ two x.more
def nodeBytes (x : Ino) : List Int := padTo (headBytes x ++ twos (x.blocks.take 6)) 32
def moreBytes (x : Ino) : List Int := if 6 < x.blocks.length then padTo (twos (x.blocks.drop 6)) 64 else []
def putNode (x : Ino) : List Int × List Int × Int := if mayB x = true then (nodeBytes x, moreBytes x, 0) else ([], [], 1)
def at2 (b : List Int) (i : Nat) : Int := 256 * b.getD i 0 + b.getD (i + 1) 0
def readNode (b : List Int) : Ino := ⟨b.getD 0 0, at2 b 1, at2 b 3, (List.range (min (blocksP (b.getD 0 0) (at2 b 3)).toNat 6)).map fun i => at2 b (7 + 2 * i), at2 b 5⟩
def leftOf (b : List Int) : Int := max 0 (blocksP (b.getD 0 0) (at2 b 3) - 6)
def fullNode (b : List Int) : Ino := { readNode b with blocks := (readNode b).blocks ++ List.replicate (leftOf b).toNat 1 }
def goodNode (b : List Int) : Bool := decide (b.length = 32) && decide (0 ≤ blocksP (b.getD 0 0) (at2 b 3)) && mayB (fullNode b) && decide (nodeBytes (fullNode b) = b)
def takeNode (b : List Int) : Ino × Int × Int := if goodNode b = true then (readNode b, leftOf b, 0) else (Ino.zero, 0, 4)
def okAt (b : List Int) (left : Int) (i : Nat) : Bool := if (i : Int) < left then blockB (at2 b (2 * i)) else decide (at2 b (2 * i) = 0)
def moreFrom (b : List Int) (left : Int) (i : Nat) : Nat → Bool
  | 0 => true
  | d + 1 => okAt b left i && moreFrom b left (i + 1) d
theorem moreFrom_iff (b : List Int) (left : Int) : ∀ d i, moreFrom b left i d = true ↔ ∀ j, i ≤ j → j < i + d → okAt b left j = true
  | 0, i => by simp [moreFrom]; intro j h1 h2; omega
  | d + 1, i => by
    simp only [moreFrom, Bool.and_eq_true, moreFrom_iff b left d (i + 1)]
    constructor
    · rintro ⟨h, k⟩ j h1 h2
      by_cases e : j = i
      · subst e; exact h
      · exact k j (by omega) (by omega)
    · intro h
      exact ⟨h i (by omega) (by omega), fun j h1 h2 => h j (by omega) (by omega)⟩
def moreOk (b : List Int) (left : Int) : Bool := moreFrom b left 0 32
/-- The first numbers of those that are left. -/
def upTo (b : List Int) (left : Int) (i : Nat) : List Int := (List.range (min i left.toNat)).map fun i => at2 b (2 * i)
def takeMore (b : List Int) (left : Int) : List Int × Int :=
  if decide (b.length = 64) = true ∧ 0 ≤ left ∧ left ≤ 32 ∧ moreOk b left = true then (upTo b left 32, 0) else ([], 4)

/-! ### bytes -/
def Bytes (l : List Int) : Prop := ∀ b ∈ l, 0 ≤ b ∧ b ≤ 255
theorem Bytes.nil : Bytes [] := fun _ h => by cases h
theorem Bytes.append {l m : List Int} (h : Bytes l) (k : Bytes m) : Bytes (l ++ m) := fun b hb => (List.mem_append.1 hb).elim (h b) (k b)
theorem Bytes.two (n : Int) : Bytes (two n) := fun b hb => by
  unfold lay.two at hb
  simp only [List.mem_cons, List.not_mem_nil, or_false] at hb
  rcases hb with rfl | rfl <;> omega
theorem Bytes.twos (l : List Int) : Bytes (twos l) := fun b hb => by
  unfold lay.twos at hb
  obtain ⟨n, _, hn⟩ := List.mem_flatMap.1 hb
  exact Bytes.two n b hn
theorem Bytes.zeros (n : Nat) : Bytes (List.replicate n 0) := fun b hb => by
  obtain rfl := (List.mem_replicate.1 hb).2
  omega
theorem Bytes.pad {l : List Int} (h : Bytes l) (n : Nat) : Bytes (padTo l n) := h.append (Bytes.zeros _)
theorem Bytes.node (x : Ino) : Bytes (nodeBytes x) := by
  unfold nodeBytes headBytes
  refine Bytes.pad (Bytes.append (Bytes.append (Bytes.append (Bytes.append (fun b hb => ?_) (Bytes.two _)) (Bytes.two _)) (Bytes.two _)) (Bytes.twos _)) 32
  rw [List.mem_singleton] at hb
  omega
theorem Bytes.more (x : Ino) : Bytes (moreBytes x) := by
  unfold moreBytes
  split
  · exact Bytes.pad (Bytes.twos _) _
  · exact Bytes.nil
theorem twos_length (l : List Int) : (twos l).length = 2 * l.length := by
  unfold twos
  induction l with
  | nil => rfl
  | cons a l ih => simp only [List.flatMap_cons, List.length_append, ih, List.length_cons, two, List.length_nil]; omega
theorem twos_append (l m : List Int) : twos (l ++ m) = twos l ++ twos m := by simp [twos]
theorem twos_snoc (l : List Int) (n : Int) : twos (l ++ [n]) = twos l ++ two n := by simp [twos]
theorem bytes_getD {l : List Int} (h : Bytes l) (i : Nat) : 0 ≤ l.getD i 0 ∧ l.getD i 0 ≤ 255 := by
  rw [List.getD_eq_getElem?_getD]
  cases e : l[i]? with
  | none => simp
  | some b => exact h b (List.mem_of_getElem? e)
theorem at2_range {l : List Int} (h : Bytes l) (i : Nat) : 0 ≤ at2 l i ∧ at2 l i ≤ 65535 := by
  have h1 := bytes_getD h i
  have h2 := bytes_getD h (i + 1)
  unfold at2
  omega
theorem mayB_parts {x : Ino} (h : mayB x = true) : 0 ≤ blocksP x.kind x.size ∧ blocksP x.kind x.size = (x.blocks.length : Int) ∧ (∀ b ∈ x.blocks, 0 < b ∧ b < 4096) ∧ 0 ≤ x.mode ∧ x.mode ≤ 4095 ∧ (if 6 < blocksP x.kind x.size then 0 < x.more ∧ x.more < 4096 else x.more = 0) := by
  unfold mayB blockB at h
  simp only [Bool.and_eq_true, decide_eq_true_eq, List.all_eq_true] at h
  obtain ⟨⟨⟨⟨⟨h1, h2⟩, h3⟩, h4⟩, h5⟩, h6⟩ := h
  refine ⟨h1, h2, h3, h4, h5, ?_⟩
  split at h6
  · rw [if_pos ‹_›]; simpa using h6
  · rw [if_neg ‹_›]; simpa using h6
theorem mayB_more {x : Ino} (h : mayB x = true) : 0 ≤ x.more ∧ x.more < 4096 := by
  have h6 := (mayB_parts h).2.2.2.2.2
  split at h6 <;> omega
theorem head_length (x : Ino) : (headBytes x).length = 7 := rfl
theorem node_length {x : Ino} : (nodeBytes x).length = 32 := by
  unfold nodeBytes padTo
  have h : (headBytes x ++ twos (x.blocks.take 6)).length ≤ 19 := by
    rw [List.length_append, twos_length, head_length, List.length_take]; omega
  rw [List.length_append, List.length_replicate]
  omega
end Go.Proofs.YtmjmcmohicjfkaaDoor.lay
