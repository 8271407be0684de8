/- Tables of files: how one lies in memory, and the contracts of its functions. -/
import Derived.Test.YtlohaefhigbdjaaProg
import Derived.WalkKit
import Derived.KernelRfl
import Derived.Below
import Derived.RowKit3
import Derived.Deep.LoopGhost
import Derived.Deep.QuietTactic
import Derived.BigQuiet
import Derived.Deep.DeepCutAuto
import Derived.Deep.CutBlock
import Derived.Deep.RegionHeld3
import Derived.Deep.MidRow
import Derived.Deep.DrawnRows
import Derived.Outline
import Derived.WalkSpells
import Derived.WalkLawsBesides
import Derived.ChangeKeysEq
import Derived.IntWalk
import Derived.Test.YtlohaefhigbdjaaWMore
namespace Go.Proofs.Ytlohaefhigbdjaa.Fds
open Go.RowKit Go.Proofs.YtlohaefhigbdjaaW.PrintWords
set_option linter.unusedVariables false
set_option linter.unusedSimpArgs false

/-- A world that is another one but for one block (and for new ones). -/
structure Kept (g : Nat) (w w' : World) : Prop where
  os : w'.os = w.os
  tape : w'.tape = w.tape
  output : w'.output = w.output
  size : w.heap.size ≤ w'.heap.size
  block : ∀ k, k < w.heap.size → k ≠ g → w'.heap[k]? = w.heap[k]?
theorem Kept.refl (g : Nat) (w : World) : Kept g w w := ⟨rfl, rfl, rfl, Nat.le_refl _, fun _ _ _ => rfl⟩
theorem Kept.trans {g : Nat} {a b c : World} (h : Kept g a b) (k : Kept g b c) : Kept g a c :=
  ⟨k.os.trans h.os, k.tape.trans h.tape, k.output.trans h.output, Nat.le_trans h.size k.size, fun i hi hn => (k.block i (Nat.lt_of_lt_of_le hi h.size) hn).trans (h.block i hi hn)⟩
theorem Kept.set {g : Nat} {a b : World} (h : Kept g a b) (j : Nat) (v : Value) : Kept g a (b.setCell ⟨g, j, none⟩ v) :=
  ⟨h.os, h.tape, h.output, by rw [World.size_setCell]; exact h.size, fun i hi hn => (Below.heap_setCell b ⟨g, j, none⟩ v i (fun e => hn e)).trans (h.block i hi hn)⟩
theorem Kept.drew {g : Nat} {a b : World} (h : Kept g a b) : Kept g a b.drew := ⟨h.os, h.tape, h.output, h.size, h.block⟩
theorem Kept.drewN {g : Nat} {a b : World} (h : Kept g a b) (n : Nat) : Kept g a (b.drewN n) := ⟨h.os, h.tape, h.output, h.size, h.block⟩
theorem Kept.below {g B : Nat} {a b c : World} (h : Below B a b) (k : Kept g b c) (hg : B ≤ g) (hB : B ≤ b.heap.size) : Below B a c :=
  ⟨k.os.trans h.os, k.tape.trans h.tape, k.output.trans h.output, Nat.le_trans h.size k.size, fun i hi => (k.block i (Nat.lt_of_lt_of_le hi hB) (by omega)).trans (h.block i hi)⟩
theorem Kept.of_below {g : Nat} {a b : World} (h : Below a.heap.size a b) : Kept g a b := ⟨h.os, h.tape, h.output, h.size, fun i hi _ => h.block i hi⟩

def tcells (V : List Int) (I : List Bool) : List Value := V.map (Value.int .i64) ++ I.map Value.bool
/-- Block g is a table: the values, and which places are taken. -/
structure Tab (w : World) (g : Nat) (V : List Int) (I : List Bool) : Prop where
  blk : w.heap[g]? = some (.cells (tcells V I).toArray 48 (0, 0))
  lv : V.length = 16
  li : I.length = 16
theorem Tab.lt {w : World} {g : Nat} {V : List Int} {I : List Bool} (h : Tab w g V I) : g < w.heap.size := blk_lt h.blk
theorem Tab.of_kept {w w' : World} {g g' : Nat} {V : List Int} {I : List Bool} (h : Tab w g V I) (k : Kept g' w w') (hn : g ≠ g') : Tab w' g V I := ⟨(k.block g h.lt hn).trans h.blk, h.lv, h.li⟩
theorem Tab.of_below {w w' : World} {g : Nat} {V : List Int} {I : List Bool} (h : Tab w g V I) (k : Below w.heap.size w w') : Tab w' g V I := ⟨(k.block g h.lt).trans h.blk, h.lv, h.li⟩
theorem Tab.val {w : World} {g : Nat} {V : List Int} {I : List Bool} (h : Tab w g V I) (k : Nat) (hk : k < 16) : w.cell? ⟨g, k, none⟩ = some (.int .i64 (V.getD k 0)) := by
  rw [blk_cell h.blk]
  have := h.lv
  simp [tcells, List.getElem?_append, hk, this, List.getD_eq_getElem?_getD]
theorem Tab.is {w : World} {g : Nat} {V : List Int} {I : List Bool} (h : Tab w g V I) (k : Nat) (hk : k < 16) : w.cell? ⟨g, 16 + k, none⟩ = some (.bool (I.getD k false)) := by
  rw [blk_cell h.blk]
  have := h.lv
  have := h.li
  simp [tcells, List.getElem?_append, *, List.getD_eq_getElem?_getD]
theorem Tab.free {w : World} {g : Nat} {V : List Int} {I : List Bool} (h : Tab w g V I) (k : Nat) : w.frozen? ⟨g, k, none⟩ = false := blk_frozen h.blk k
theorem Tab.set_val {w : World} {g : Nat} {V : List Int} {I : List Bool} (h : Tab w g V I) (k : Nat) (hk : k < 16) (x : Int) : Tab (w.setCell ⟨g, k, none⟩ (.int .i64 x)) g (V.set k x) I := by
  refine ⟨?_, by rw [List.length_set]; exact h.lv, h.li⟩
  rw [blk_set h.blk]
  congr 2
  have := h.lv
  simp only [tcells, List.setIfInBounds_toArray]
  congr 1
  rw [List.set_append_left _ _ (by simp; omega), List.map_set]
theorem Tab.set_is {w : World} {g : Nat} {V : List Int} {I : List Bool} (h : Tab w g V I) (k : Nat) (hk : k < 16) (x : Bool) : Tab (w.setCell ⟨g, 16 + k, none⟩ (.bool x)) g V (I.set k x) := by
  refine ⟨?_, h.lv, by rw [List.length_set]; exact h.li⟩
  rw [blk_set h.blk]
  congr 2
  have := h.lv
  simp only [tcells, List.setIfInBounds_toArray]
  congr 1
  rw [List.set_append_right _ _ (by simp; omega), List.map_set]
  simp [this]
theorem Tab.drew {w : World} {g : Nat} {V : List Int} {I : List Bool} (h : Tab w g V I) : Tab w.drew g V I := ⟨h.blk, h.lv, h.li⟩
theorem Tab.drewN {w : World} {g : Nat} {V : List Int} {I : List Bool} (h : Tab w g V I) (n : Nat) : Tab (w.drewN n) g V I := ⟨h.blk, h.lv, h.li⟩

/-- Which places are taken, as one value out of memory. -/
theorem Tab.is_row {w : World} {g : Nat} {V : List Int} {I : List Bool} (h : Tab w g V I) : w.rangeAt g 16 (I.map Value.bool) := fun j v hv => by
  obtain ⟨hj, rfl⟩ := List.getElem?_eq_some_iff.1 hv
  have hj' : j < 16 := by have := h.li; simp at hj; omega
  rw [h.is j hj']
  have := h.li
  simp [List.getD_eq_getElem?_getD, this, hj']
theorem Tab.val_row {w : World} {g : Nat} {V : List Int} {I : List Bool} (h : Tab w g V I) : w.rangeAt g 0 (V.map (Value.int .i64)) := fun j v hv => by
  obtain ⟨hj, rfl⟩ := List.getElem?_eq_some_iff.1 hv
  have hj' : j < 16 := by have := h.lv; simp at hj; omega
  rw [Nat.zero_add, h.val j hj']
  have := h.lv
  simp [List.getD_eq_getElem?_getD, this, hj']

theorem info44 : (Try.prog.info? 44).map (·.size) = some 16 := by kernel_rfl
theorem info43 : (Try.prog.info? 43).map (·.size) = some 16 := by kernel_rfl
theorem info4 : (Try.prog.info? 4).map (·.size) = some 1 := by kernel_rfl

/-- the k-th of an array of bools, by value -/
theorem run_index_bool (I : List Bool) (h : I.length = 16) (k : Nat) (hk : k < 16) (w : World) :
    (Instr.index 44 (.agg (I.map Value.bool).toArray) (.int .i64 k)).run Try.prog w = .ok (.bool (I.getD k false)) w := by
  have hs : ∀ w : World, (sizeOf 4).run Try.prog w = .ok 1 w := fun _ => by kernel_rfl
  have ha : ∀ w : World, (isAgg 4).run Try.prog w = .ok false w := fun _ => by kernel_rfl
  have hg : (I.map Value.bool)[k]? = some (.bool (I.getD k false)) := by simp [List.getD_eq_getElem?_getD, h, hk]
  have hb : (0 : Int) ≤ (k : Int) ∧ (k : Int) < (16 : Nat) := by omega
  simp [Instr.index, part, run_underlying Try.underlying44, asIntOf, hs, ha, hk, h, List.getD_eq_getElem?_getD]

/-! ### plain: what the functions do -/
def zeros : List Int := List.replicate 16 0
def free (I : List Bool) : Nat := (I.takeWhile (fun b => b)).length
def numOf (I : List Bool) : Nat := I.countP (fun b => b)

set_option maxHeartbeats 4000000 in
set_option maxRecDepth 100000 in
theorem get_is (w : World) (g : Nat) (V : List Int) (I : List Bool) (ht : Tab w g V I) (k : Nat) (hk : k < 16) :
    Calls Try.prog 13 #[.pointer (some ⟨g, 0, none⟩), .int .i64 k] w fun e w' => e = .returned (.tuple #[.int .i64 (if I.getD k false = true then V.getD k 0 else 0), .bool (I.getD k false)]) ∧ w = w' := by
  have c1 := ht.val k hk
  have c2 := ht.is k hk
  have a1 : ¬ ((k : Int) < 0) := by omega
  have a2 : ¬ (16 ≤ (k : Int)) := by omega
  have a3 : (0 : Int) ≤ (k : Int) := by omega
  have a4 : (k : Int) < 16 := by omega
  generalize V.getD k 0 = v at *
  generalize I.getD k false = b at *
  clear ht
  cases b
  all_goals
    go_enter Try.func13, Try.ntmps13
    go_wp2
    go_ret2
    exact ⟨by first | rfl | simp, rfl⟩
set_option maxHeartbeats 4000000 in
set_option maxRecDepth 100000 in
theorem get_out (w : World) (g : Nat) (k : Int) (hk : k < 0 ∨ 16 ≤ k) :
    Calls Try.prog 13 #[.pointer (some ⟨g, 0, none⟩), .int .i64 k] w fun e w' => e = .returned (.tuple #[.int .i64 0, .bool false]) ∧ w = w' := by
  rcases Int.lt_or_le k 0 with h | h
  · go_enter Try.func13, Try.ntmps13
    go_wp2
    go_ret2
    exact ⟨by first | rfl | simp, rfl⟩
  · have h' : 16 ≤ k := by omega
    clear hk
    go_enter Try.func13, Try.ntmps13
    go_wp2
    go_ret2
    exact ⟨by first | rfl | simp, rfl⟩

theorem num_snoc (I : List Bool) (k : Nat) (hk : k < I.length) : numOf (I.take (k + 1)) = numOf (I.take k) + if I.getD k false = true then 1 else 0 := by
  unfold numOf
  rw [List.take_add_one, List.countP_append]
  simp [List.getD_eq_getElem?_getD, hk, List.countP_cons]
theorem num_le (I : List Bool) (k : Nat) : numOf (I.take k) ≤ k := Nat.le_trans List.countP_le_length (List.length_take_le _ _)

set_option maxHeartbeats 4000000 in
set_option maxRecDepth 100000 in
theorem len_is (w : World) (g : Nat) (V : List Int) (I : List Bool) (ht : Tab w g V I) :
    Calls Try.prog 10 #[.pointer (some ⟨g, 0, none⟩)] w fun e w' => e = .returned (.int .i64 (numOf I)) ∧ w = w' := by
  have hr := ht.is_row
  have hl := Aside0.mk ht.li
  have hi : (Try.prog.info? 44).map (·.size) = some (I.map Value.bool).length := by rw [List.length_map, ht.li]; exact info44
  have HR := Aside0.mk hr
  have HI := Aside0.mk hi
  clear ht hr hi
  go_enter Try.func10, Try.ntmps10
  go_wp2_with (refine wpList_load_mid rfl 44 _ rfl g 16 rfl (I.map Value.bool) _ HR.out Try.underlying44 rfl HI.out ?_)
  go_loop [3, 10] (fun s i => ∃ k : Nat, k ≤ 16 ∧ i = .int .i64 k ∧ s = .int .i64 (numOf (I.take k))) (fun _ i => 16 - (intOf i).toNat)
  case atStart => exact ⟨0, by omega, rfl, rfl⟩
  case round =>
    obtain ⟨k, hk, rfl, rfl⟩ := hrel
    have hn := num_le I k
    by_cases hlt : k < 16
    · have hx := run_index_bool I hl.out k hlt
      have hs := num_snoc I k (by have := hl.out; omega)
      generalize hb : I.getD k false = b at hx hs
      clear hb
      have HS := Aside0.mk hs
      clear hs
      generalize numOf (I.take k) = n at *
      cases b
      all_goals
        go_wp2
        go_round
        case rel => exact ⟨k + 1, by omega, by go_num, by rw [HS.out]; simp⟩
        case measure => simp [intOf]; omega
    · obtain rfl : k = 16 := by omega
      have e : numOf (I.take 16) = numOf I := by rw [List.take_of_length_le (by have := hl.out; omega)]
      rw [e]
      clear e hn
      go_wp2
      go_ret
      exact ⟨rfl, rfl⟩

def V0 : List Int := [0, 1, 2, 0, 0, 0, 0, 0, 0, 0, 0, 0, 0, 0, 0, 0]
def I0 : List Bool := [true, true, true, false, false, false, false, false, false, false, false, false, false, false, false, false]

/-- The two stores, in whatever order: what each needs. -/
theorem two_stores {w : World} {g : Nat} {V : List Int} {I : List Bool} (ht : Tab w g V I) (k : Nat) (hk : k < 16) (x : Int) (y : Bool) :
    (w.setCell ⟨g, k, none⟩ (.int .i64 x)).cell? ⟨g, 16 + k, none⟩ = some (.bool (I.getD k false)) ∧ (w.setCell ⟨g, k, none⟩ (.int .i64 x)).frozen? ⟨g, 16 + k, none⟩ = false ∧
    (w.setCell ⟨g, 16 + k, none⟩ (.bool y)).cell? ⟨g, k, none⟩ = some (.int .i64 (V.getD k 0)) ∧ (w.setCell ⟨g, 16 + k, none⟩ (.bool y)).frozen? ⟨g, k, none⟩ = false :=
  ⟨(ht.set_val k hk x).is k hk, (ht.set_val k hk x).free _, (ht.set_is k hk y).val k hk, (ht.set_is k hk y).free _⟩
/-- .. and what they leave. -/
theorem both_ways {w : World} {g : Nat} {V : List Int} {I : List Bool} (ht : Tab w g V I) (k : Nat) (hk : k < 16) (x : Int) (y : Bool) :
    (Tab ((w.setCell ⟨g, k, none⟩ (.int .i64 x)).setCell ⟨g, 16 + k, none⟩ (.bool y)) g (V.set k x) (I.set k y) ∧ Kept g w ((w.setCell ⟨g, k, none⟩ (.int .i64 x)).setCell ⟨g, 16 + k, none⟩ (.bool y))) ∧
    (Tab ((w.setCell ⟨g, 16 + k, none⟩ (.bool y)).setCell ⟨g, k, none⟩ (.int .i64 x)) g (V.set k x) (I.set k y) ∧ Kept g w ((w.setCell ⟨g, 16 + k, none⟩ (.bool y)).setCell ⟨g, k, none⟩ (.int .i64 x))) :=
  ⟨⟨(ht.set_val k hk x).set_is k hk y, ((Kept.refl g w).set _ _).set _ _⟩, ⟨(ht.set_is k hk y).set_val k hk x, ((Kept.refl g w).set _ _).set _ _⟩⟩

/-- What the walk needs of an exit with a table turned. -/
def Turned (g : Nat) (w : World) (V : List Int) (I : List Bool) (w' : World) : Prop := Tab w' g V I ∧ Kept g w w'

set_option maxHeartbeats 4000000 in
set_option maxRecDepth 100000 in
theorem close_in (w : World) (g : Nat) (V : List Int) (I : List Bool) (ht : Tab w g V I) (k : Nat) (hk : k < 16) (hi : I.getD k false = true) :
    Calls Try.prog 15 #[.pointer (some ⟨g, 0, none⟩), .int .i64 k] w fun e w' => e = .returned (.int .i64 0) ∧ Turned g w (V.set k 0) (I.set k false) w' := by
  have hg := get_is w g V I ht k hk
  rw [hi, if_pos rfl] at hg
  have HG := Aside0.mk hg
  have c1 := ht.val k hk
  have c2 := ht.is k hk
  have f1 := ht.free k
  have f2 := ht.free (16 + k)
  obtain ⟨s1, s2, s3, s4⟩ := two_stores ht k hk 0 false
  have HT := Aside0.mk (both_ways ht k hk 0 false)
  have a3 : (0 : Int) ≤ (k : Int) := by omega
  have a4 : (k : Int) < 16 := by omega
  rw [hi] at c2 s1
  generalize V.getD k 0 = v at *
  clear hg hi ht
  go_enter Try.func15, Try.ntmps15
  go_wp2_with fail
  refine HG.out.mono ?_
  rintro e w1 ⟨rfl, rfl⟩
  go_wp2_with fail
  go_region
  all_goals
    go_wp2
    go_ret
    exact ⟨rfl, by first | exact ⟨HT.out.1.1, HT.out.1.2⟩ | exact ⟨HT.out.2.1, HT.out.2.2⟩ | exact ⟨HT.out.1.1.drew, HT.out.1.2.drew⟩ | exact ⟨HT.out.2.1.drew, HT.out.2.2.drew⟩⟩
end Go.Proofs.Ytlohaefhigbdjaa.Fds
