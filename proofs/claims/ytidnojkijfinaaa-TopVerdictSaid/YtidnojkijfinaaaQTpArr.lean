/- Part of the proof of TopVerdictSaid. -/
import Derived.Test.YtidnojkijfinaaaQTpBase
namespace Go.Proofs.Ytidnojkijfinaaa.Fns
open Go.RowKit Go.Proofs.YtidnojkijfinaaaW.PrintWords Go.Proofs.YtidnojkijfinaaaW.PrintLast Go.Proofs.YtidnojkijfinaaaW.PrintMore
attribute [local go_sem] max2_int min2_int max_two min_two max_three min_three max_four min_four
set_option linter.unusedVariables false
set_option linter.unusedSimpArgs false
def actTab : List Int := [2147483648, 0, 196608, 327680, 2143289344, 2146435072, 2147221504, 2147418112]
def act_number.f (a0 : Int) : Option Int := if 1 ≤ a0 ∧ a0 ≤ 8 then some (rd actTab (a0 - 1)) else none
set_option maxHeartbeats 4000000 in
set_option maxRecDepth 100000 in
theorem act_number.calls (a0 : Int) (r : Int) (w : World) (h : act_number.f a0 = some r) :
    Calls Try.prog 29 #[.int .i64 a0] w fun e w' => e = .returned (.int .u32 r) ∧ Below w.heap.size w w' := by
  unfold act_number.f at h
  split at h
  · rename_i hk
    obtain ⟨h1, h2⟩ := hk
    injection h with h
    have hu := Try.underlying119
    have p1 : (0 ≤ a0 - 1) = True := eq_true (by omega)
    have p2 : (a0 - 1 < 8) = True := eq_true (by omega)
    have HW := Aside0.mk (show wrap64 (a0 - 1) = a0 - 1 from IntWalk.wrap64_in _ (by omega))
    have HR := Aside0.mk h
    clear h
    have htab : ([.int .u32 2147483648, .int .u32 0, .int .u32 196608, .int .u32 327680, .int .u32 2143289344, .int .u32 2146435072, .int .u32 2147221504, .int .u32 2147418112] : List Value)[a0.toNat - 1]? = some (.int .u32 r) := by
      rw [← HR.out]
      have : a0 = 1 ∨ a0 = 2 ∨ a0 = 3 ∨ a0 = 4 ∨ a0 = 5 ∨ a0 = 6 ∨ a0 = 7 ∨ a0 = 8 := by omega
      rcases this with rfl | rfl | rfl | rfl | rfl | rfl | rfl | rfl <;> rfl
    go_enter Try.func29, Try.ntmps29
    go_wp2
    go_ret
    exact ⟨rfl, below_alloc (Below.refl _ _) _⟩
  · cases h
def codes : List Int := [32, 84, 21, 37, 53, 5, 6]
def insn_Known.f (a0 : Int) : Option Bool := if a0 ∈ codes then some true else none
set_option maxHeartbeats 4000000 in
set_option maxRecDepth 100000 in
theorem jumps_at (c : Int) (h : c = 21 ∨ c = 37 ∨ c = 53 ∨ c = 5) (w : World) : Calls Try.prog 66 #[.int .u16 c] w fun e w' => e = .returned (.bool true) ∧ w' = w := by
  rcases h with rfl | rfl | rfl | rfl <;>
  · go_enter Try.func66, Try.ntmps66
    go_wp2
    go_ret
    exact ⟨rfl, rfl⟩
set_option maxHeartbeats 4000000 in
set_option maxRecDepth 100000 in
theorem ends_at (w : World) : Calls Try.prog 67 #[.int .u16 6] w fun e w' => e = .returned (.bool true) ∧ w' = w := by
  go_enter Try.func67, Try.ntmps67
  go_wp2
  go_ret
  exact ⟨rfl, rfl⟩
def singles : List Int := [32, 0, 1, 96, 97, 2, 3, 132, 7, 135]
set_option maxHeartbeats 4000000 in
set_option maxRecDepth 100000 in
theorem insn_Known.calls (a0 : Int) (r : Bool) (w : World) (h : insn_Known.f a0 = some r) :
    Calls Try.prog 65 #[.int .u16 a0] w fun e w' => e = .returned (.bool r) ∧ Below w.heap.size w w' := by
  unfold insn_Known.f at h
  by_cases hc : a0 ∈ codes
  rotate_left
  · rw [if_neg hc] at h
    cases h
  rw [if_pos hc] at h
  injection h with h
  subst h
  simp only [codes, List.mem_cons, List.not_mem_nil, or_false] at hc
  have hu := Try.underlying165
  have HC := Aside0.mk hc
  clear hc
  go_enter Try.func65, Try.ntmps65
  go_wp2
  go_loop [8] (fun v8 => ∃ k : Nat, v8 = .int .i64 (k : Int) ∧ k ≤ 10 ∧ (a0 = 32 → k = 0)) (fun v8 => 10 - (intOf v8).toNat)
  case atStart => exact ⟨0, rfl, by omega, fun _ => rfl⟩
  case round =>
    obtain ⟨k, rfl, hk, h32⟩ := hrel
    by_cases hk10 : k < 10
    · have e0 : decide ((k : Int) < 10) = true := decide_eq_true (by omega)
      have e1 : decide (k < 10) = true := decide_eq_true hk10
      have p1 : (0 ≤ (k : Int)) = True := eq_true (by omega)
      have p2 : ((k : Int) < 10) = True := eq_true (by omega)
      have htab : (#[.int .u16 32, .int .u16 0, .int .u16 1, .int .u16 96, .int .u16 97, .int .u16 2, .int .u16 3, .int .u16 132, .int .u16 7, .int .u16 135] : Array Value)[k]? = some (.int .u16 (singles.getD k 0)) := by
        have : k = 0 ∨ k = 1 ∨ k = 2 ∨ k = 3 ∨ k = 4 ∨ k = 5 ∨ k = 6 ∨ k = 7 ∨ k = 8 ∨ k = 9 := by omega
        rcases this with rfl | rfl | rfl | rfl | rfl | rfl | rfl | rfl | rfl | rfl <;> rfl
      obtain ⟨c, hcv⟩ : ∃ c, singles.getD k 0 = c := ⟨_, rfl⟩
      rw [hcv] at htab
      have hix := fun W => run_index_arr (P := Try.prog) 165 82 10 #[.int .u16 32, .int .u16 0, .int .u16 1, .int .u16 96, .int .u16 97, .int .u16 2, .int .u16 3, .int .u16 132, .int .u16 7, .int .u16 135] .i64 (k : Int) (.int .u16 c) W _ Try.underlying165 Try.underlying82 rfl (by kernel_rfl) (by omega) (by omega) (by rw [Int.toNat_natCast]; exact htab)
      clear htab
      by_cases h3 : a0 = 32
      · obtain rfl := h32 h3
        subst h3
        obtain rfl : 32 = c := hcv
        rw [Int.natCast_zero] at hix
        go_wp2
        go_ret
        exact ⟨rfl, below_alloc (Below.refl _ _) _⟩
      · have hne : (c == a0) = false := by
          have hc := HC.out
          have : k = 0 ∨ k = 1 ∨ k = 2 ∨ k = 3 ∨ k = 4 ∨ k = 5 ∨ k = 6 ∨ k = 7 ∨ k = 8 ∨ k = 9 := by omega
          rw [beq_eq_false_iff_ne, ← hcv]
          rcases this with rfl | rfl | rfl | rfl | rfl | rfl | rfl | rfl | rfl | rfl <;> (simp [singles]; omega)
        clear hcv
        go_wp2
        refine ⟨⟨k + 1, by simp, by omega, fun h => absurd h h3⟩, ?_⟩
        simp only [intOf]
        omega
    · obtain rfl : k = 10 := by omega
      have h3 : a0 ≠ 32 := fun h => by have := h32 h; omega
      have hc := HC.out
      rcases hc with rfl | rfl | rfl | rfl | rfl | rfl | rfl
      · exact absurd rfl h3
      all_goals
        go_wp2
        go_ret
        exact ⟨rfl, below_alloc (Below.refl _ _) _⟩
end Go.Proofs.Ytidnojkijfinaaa.Fns
