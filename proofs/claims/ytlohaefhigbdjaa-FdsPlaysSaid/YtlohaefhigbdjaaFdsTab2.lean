/- Tables of files: Install, Close, New, Same. -/
import Derived.Test.YtlohaefhigbdjaaFdsTab
namespace Go.Proofs.Ytlohaefhigbdjaa.Fds
open Go.RowKit Go.Proofs.YtlohaefhigbdjaaW.PrintWords
set_option linter.unusedVariables false
set_option linter.unusedSimpArgs false

set_option maxHeartbeats 4000000 in
set_option maxRecDepth 100000 in
theorem close_not (w : World) (g : Nat) (V : List Int) (I : List Bool) (ht : Tab w g V I) (k : Int) (hi : k < 0 ∨ 16 ≤ k ∨ I.getD k.toNat false = false) :
    Calls Try.prog 15 #[.pointer (some ⟨g, 0, none⟩), .int .i64 k] w fun e w' => e = .returned (.int .i64 17) ∧ w = w' := by
  have HG : Aside0 (∃ x, Calls Try.prog 13 #[.pointer (some ⟨g, 0, none⟩), .int .i64 k] w fun e w' => e = .returned (.tuple #[.int .i64 x, .bool false]) ∧ w = w') := by
    by_cases h : k < 0 ∨ 16 ≤ k
    · exact ⟨0, get_out w g k h⟩
    · obtain ⟨n, rfl⟩ := Int.eq_ofNat_of_zero_le (show 0 ≤ k by omega)
      have := get_is w g V I ht n (by omega)
      have hf : I.getD n false = false := by
        rcases hi with h1 | h1 | h1
        · omega
        · omega
        · simpa using h1
      rw [hf] at this
      exact ⟨_, this⟩
  clear hi ht
  obtain ⟨x, hx⟩ := HG.out
  have HX := Aside0.mk hx
  clear hx HG
  go_enter Try.func15, Try.ntmps15
  go_wp2_with fail
  refine HX.out.mono ?_
  rintro e w1 ⟨rfl, rfl⟩
  go_wp2_with fail
  go_ret
  exact ⟨rfl, rfl⟩

set_option maxHeartbeats 4000000 in
set_option maxRecDepth 100000 in
theorem install_in (w : World) (g : Nat) (V : List Int) (I : List Bool) (ht : Tab w g V I) (val : Int) (f : Nat) (hf : f < 16) (hi : I.getD f false = false) (hall : ∀ j, j < f → I.getD j false = true) :
    Calls Try.prog 9 #[.pointer (some ⟨g, 0, none⟩), .int .i64 val] w fun e w' => e = .returned (.tuple #[.int .i64 f, .int .i64 0]) ∧ Turned g w (V.set f val) (I.set f true) w' := by
  have HR := Aside0.mk ht.is_row
  have hl := Aside0.mk ht.li
  have HI : Aside0 ((Try.prog.info? 44).map (·.size) = some (I.map Value.bool).length) := ⟨by rw [List.length_map, ht.li]; exact info44⟩
  have HT := Aside0.mk ht
  have HA := Aside0.mk hall
  have HF := Aside0.mk hi
  clear ht hall hi
  go_enter Try.func9, Try.ntmps9
  go_wp2_with (refine wpList_load_mid rfl 44 _ rfl g 16 rfl (I.map Value.bool) _ HR.out Try.underlying44 rfl HI.out ?_)
  go_loop [12] (fun i => ∃ k : Nat, k ≤ f ∧ i = .int .i64 k) (fun i => 16 - (intOf i).toNat)
  case atStart => exact ⟨0, by omega, rfl⟩
  case round =>
    obtain ⟨k, hk, rfl⟩ := hrel
    have hlt : k < 16 := by omega
    have hx := run_index_bool I hl.out k hlt
    by_cases hkf : k < f
    · rw [HA.out k hkf] at hx
      go_wp2
      go_round
      case rel => exact ⟨k + 1, by omega, by go_num⟩
      case measure => simp [intOf]; omega
    · obtain rfl : k = f := by omega
      rw [HF.out] at hx
      have c1 := HT.out.val k hlt
      have c2 := HT.out.is k hlt
      have f1 := HT.out.free k
      have f2 := HT.out.free (16 + k)
      obtain ⟨s1, s2, s3, s4⟩ := two_stores HT.out k hlt val true
      have HB := Aside0.mk (both_ways HT.out k hlt val true)
      have a3 : (0 : Int) ≤ (k : Int) := by omega
      have a4 : (k : Int) < 16 := by omega
      rw [HF.out] at c2 s1
      generalize V.getD k 0 = v at *
      go_wp2_with fail
      go_region
      all_goals
        go_wp2
        go_ret2
        exact ⟨rfl, by first | exact ⟨HB.out.1.1, HB.out.1.2⟩ | exact ⟨HB.out.2.1, HB.out.2.2⟩ | exact ⟨HB.out.1.1.drew, HB.out.1.2.drew⟩ | exact ⟨HB.out.2.1.drew, HB.out.2.2.drew⟩⟩

set_option maxHeartbeats 4000000 in
set_option maxRecDepth 100000 in
theorem install_full (w : World) (g : Nat) (V : List Int) (I : List Bool) (ht : Tab w g V I) (val : Int) (hall : ∀ j, j < 16 → I.getD j false = true) :
    Calls Try.prog 9 #[.pointer (some ⟨g, 0, none⟩), .int .i64 val] w fun e w' => e = .returned (.tuple #[.int .i64 (-1), .int .i64 16]) ∧ w = w' := by
  have HR := Aside0.mk ht.is_row
  have hl := Aside0.mk ht.li
  have HI : Aside0 ((Try.prog.info? 44).map (·.size) = some (I.map Value.bool).length) := ⟨by rw [List.length_map, ht.li]; exact info44⟩
  have HT := Aside0.mk ht
  have HA := Aside0.mk hall
  clear ht hall
  go_enter Try.func9, Try.ntmps9
  go_wp2_with (refine wpList_load_mid rfl 44 _ rfl g 16 rfl (I.map Value.bool) _ HR.out Try.underlying44 rfl HI.out ?_)
  go_loop [12] (fun i => ∃ k : Nat, k ≤ 16 ∧ i = .int .i64 k) (fun i => 16 - (intOf i).toNat)
  case atStart => exact ⟨0, by omega, rfl⟩
  case round =>
    obtain ⟨k, hk, rfl⟩ := hrel
    by_cases hlt : k < 16
    · have hx := run_index_bool I hl.out k hlt
      rw [HA.out k hlt] at hx
      go_wp2
      go_round
      case rel => exact ⟨k + 1, by omega, by go_num⟩
      case measure => simp [intOf]; omega
    · obtain rfl : k = 16 := by omega
      go_wp2
      go_ret2
      exact ⟨rfl, rfl⟩

def Vn (k : Nat) : List Int := (List.range 16).map fun j => if j < k then (j : Int) else 0
def In (k : Nat) : List Bool := (List.range 16).map fun j => decide (j < k)
theorem Vn_succ (k : Nat) (hk : k < 3) : (Vn k).set k (k : Int) = Vn (k + 1) := by
  rcases (show k = 0 ∨ k = 1 ∨ k = 2 by omega) with rfl | rfl | rfl <;> rfl
theorem In_succ (k : Nat) (hk : k < 3) : (In k).set k true = In (k + 1) := by
  rcases (show k = 0 ∨ k = 1 ∨ k = 2 by omega) with rfl | rfl | rfl <;> rfl

set_option maxHeartbeats 4000000 in
set_option maxRecDepth 100000 in
theorem new_is (w : World) : Calls Try.prog 8 #[] w fun e w' => e = .returned (.pointer (some ⟨w.heap.size, 0, none⟩)) ∧ Below w.heap.size w w' ∧ Tab w' w.heap.size V0 I0 := by
  have h0 : Tab (w.alloc (.cells (tcells (Vn 0) (In 0)).toArray 48)) w.heap.size (Vn 0) (In 0) := ⟨blk_new w _, rfl, rfl⟩
  have b0 : Below w.heap.size w (w.alloc (.cells (tcells (Vn 0) (In 0)).toArray 48)) := (Below.refl _ _).alloc (Nat.le_refl _) _
  have H0 := Aside0.mk h0
  have B0 := Aside0.mk b0
  clear h0 b0
  go_enter Try.func8, Try.ntmps8
  go_wp2
  go_loopw [5] (fun i wr => ∃ k : Nat, k ≤ 3 ∧ i = .int .i64 k ∧ Aside0 (Tab wr w.heap.size (Vn k) (In k)) ∧ Aside0 (Below w.heap.size w wr)) (fun i _ => 3 - (intOf i).toNat)
  case atStart => exact ⟨0, by omega, rfl, H0, B0⟩
  case round =>
    obtain ⟨k, hk, rfl, HT, HB⟩ := hrel
    clear H0 B0
    by_cases hlt3 : k < 3
    · have hlt : k < 16 := by omega
      have c1 := HT.out.val k hlt
      have c2 := HT.out.is k hlt
      have f1 := HT.out.free k
      have f2 := HT.out.free (16 + k)
      obtain ⟨s1, s2, s3, s4⟩ := two_stores HT.out k hlt k true
      have HB2 := Aside0.mk (both_ways HT.out k hlt k true)
      rw [Vn_succ k hlt3, In_succ k hlt3] at HB2
      have hz := Aside0.mk HT.out.lt
      have a3 : (0 : Int) ≤ (k : Int) := by omega
      have a4 : (k : Int) < 16 := by omega
      generalize (Vn k).getD k 0 = v at *
      generalize (In k).getD k false = v2 at *
      go_wp2_with fail
      go_region
      all_goals
        go_wp2
        go_roundw
        case rel =>
          refine ⟨k + 1, by omega, by go_num, ⟨?_⟩, ⟨?_⟩⟩
          · first | exact HB2.out.1.1 | exact HB2.out.2.1 | exact HB2.out.1.1.drew | exact HB2.out.2.1.drew
          · first | exact Kept.below HB.out HB2.out.1.2 (Nat.le_refl _) (Nat.le_of_lt hz.out) | exact Kept.below HB.out HB2.out.2.2 (Nat.le_refl _) (Nat.le_of_lt hz.out) | exact Kept.below HB.out HB2.out.1.2.drew (Nat.le_refl _) (Nat.le_of_lt hz.out) | exact Kept.below HB.out HB2.out.2.2.drew (Nat.le_refl _) (Nat.le_of_lt hz.out)
        case measure => simp [intOf]; omega
    · obtain rfl : k = 3 := by omega
      go_wp2
      go_ret
      exact ⟨rfl, HB.out, HT.out⟩
end Go.Proofs.Ytlohaefhigbdjaa.Fds
