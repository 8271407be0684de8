/- FdsFull: its walk. -/
import Derived.Test.YtlohaefhigbdjaaFdsTab2
namespace Go.Proofs.Ytlohaefhigbdjaa.Fds
open Go.RowKit Go.Proofs.YtlohaefhigbdjaaW.PrintWords
set_option linter.unusedVariables false
set_option linter.unusedSimpArgs false

set_option maxHeartbeats 4000000 in
set_option maxRecDepth 100000 in
theorem awake_is (w : World) : Calls Try.prog 7 #[] w fun e w' => e = .returned (.bool true) ∧ Below w.heap.size w w' := by
  go_enter Try.func7, Try.ntmps7
  go_wp2_with fail
  refine (new_is _).mono ?_
  rintro e w1 ⟨rfl, hb, ht⟩
  have HB := Aside0.mk hb
  have HT := Aside0.mk ht
  clear hb ht
  go_wp2_with fail
  refine (install_in _ _ _ _ HT.out 9 3 (by omega) rfl (by decide)).mono ?_
  rintro e w2 ⟨rfl, ht⟩
  have HT2 := Aside0.mk ht
  clear ht
  go_wp2_with fail
  refine (get_is _ _ _ _ HT2.out.1 3 (by omega)).mono ?_
  rintro e w3 ⟨rfl, rfl⟩
  simp only [show (I0.set 3 true).getD 3 false = true from rfl, show (V0.set 3 9).getD 3 0 = 9 from rfl, if_true]
  go_wp2_with fail
  refine (len_is _ _ _ _ HT2.out.1).mono ?_
  rintro e w3 ⟨rfl, rfl⟩
  simp only [show numOf (I0.set 3 true) = 4 from rfl]
  go_wp2_with fail
  go_ret
  exact ⟨by first | rfl | simp, Kept.below HB.out HT2.out.2 (Nat.le_refl _) (by have := HB.out.size; omega)⟩

/-- The table behind n installs. -/
def sV : Nat → List Int
  | 0 => V0
  | n + 1 => if n < 13 then (sV n).set (3 + n) (100 + n) else sV n
def sI : Nat → List Bool
  | 0 => I0
  | n + 1 => if n < 13 then (sI n).set (3 + n) true else sI n
theorem s_next : ∀ n, n < 13 → (sI n).getD (3 + n) false = false ∧ ∀ j, j < 3 + n → (sI n).getD j false = true := by
  have h : ∀ n, n < 13 → (sI n).getD (3 + n) false = false ∧ ∀ j, j < 16 → j < 3 + n → (sI n).getD j false = true := by decide
  exact fun n hn => ⟨(h n hn).1, fun j hj => (h n hn).2 j (by omega) hj⟩
theorem s_stop : ∀ n, 13 ≤ n → sI n = sI 13 ∧ sV n = sV 13 := by
  intro n
  induction n with
  | zero => intro h; omega
  | succ n ih =>
    intro h
    by_cases e : n + 1 = 13
    · rw [e]; exact ⟨rfl, rfl⟩
    · have := ih (by omega)
      have e1 : sI (n + 1) = sI n := if_neg (by omega)
      have e2 : sV (n + 1) = sV n := if_neg (by omega)
      rw [e1, e2]
      exact this
theorem s_full : ∀ n, 13 ≤ n → ∀ j, j < 16 → (sI n).getD j false = true := by
  intro n hn
  rw [(s_stop n hn).1]
  decide
theorem s_num : ∀ n, n ≤ 30 → (numOf (sI n) : Int) = (if 3 + (n : Int) ≤ 16 then 3 + (n : Int) else 16) := by
  intro n hn
  by_cases h : 13 ≤ n
  · rw [(s_stop n h).1]
    have : numOf (sI 13) = 16 := by decide
    rw [this]; split <;> omega
  · have : ∀ n, n < 13 → numOf (sI n) = 3 + n := by decide
    rw [this n (by omega)]; split <;> omega

set_option maxHeartbeats 8000000 in
set_option maxRecDepth 100000 in
theorem full_any (n : Int) (w : World) : Calls Try.prog 3 #[.int .i64 n] w fun e w' => e = .returned (.bool true) ∧ Below w.heap.size w w' := by
  by_cases hn : n < 0 ∨ 30 < n
  · have hd : (decide (n < 0) = true ∧ n < 0) ∨ (decide (n < 0) = false ∧ decide (30 < n) = true ∧ 30 < n) := by
      by_cases h : n < 0
      · exact .inl ⟨by simpa using h, h⟩
      · exact .inr ⟨by simp; omega, by simp; omega, by omega⟩
    clear hn
    rcases hd with ⟨d1, d1'⟩ | ⟨d1, d2, d2'⟩
    all_goals
      go_enter Try.func3, Try.ntmps3
      go_wp2_with fail
      refine (awake_is _).mono ?_
      rintro e w1 ⟨rfl, hb⟩
      have HB := Aside0.mk hb
      clear hb
      go_wp2_with fail
      refine (new_is _).mono ?_
      rintro e w2 ⟨rfl, hb, ht⟩
      have HB2 := Aside0.mk (below_then HB.out (below_size HB.out) hb)
      clear hb ht
      go_wp2_with fail
      go_ret
      exact ⟨by first | rfl | simp, by repeat (first | exact HB2.out | apply pw_below_drewN | apply below_drew)⟩
  · obtain ⟨m, rfl⟩ := Int.eq_ofNat_of_zero_le (show 0 ≤ n by omega)
    have hm : m ≤ 30 := by omega
    have hm0 : ¬ ((m : Int) < 0) := by omega
    have hm1 : ¬ (30 < (m : Int)) := by omega
    clear hn
    go_enter Try.func3, Try.ntmps3
    go_wp2_with fail
    refine (awake_is _).mono ?_
    rintro e w1 ⟨rfl, hb⟩
    have HB := Aside0.mk hb
    clear hb
    go_wp2_with fail
    refine (new_is _).mono ?_
    rintro e w2 ⟨rfl, hb, ht⟩
    have HB2 := Aside0.mk (below_then HB.out (below_size HB.out) hb)
    have HT := Aside0.mk ht
    have hz := Aside0.mk HB.out.size
    obtain ⟨g, hg⟩ : ∃ g, g = w1.heap.size := ⟨_, rfl⟩
    rw [← hg]
    rw [← hg] at HT
    have HG := Aside0.mk hg
    clear hb ht hg
    go_wp2_with fail
    go_loopw [5] (fun i wr => ∃ k : Nat, k ≤ m ∧ i = .int .i64 k ∧ Aside0 (Tab wr g (sV k) (sI k)) ∧ Aside0 (Below w.heap.size w wr)) (fun i _ => m - (intOf i).toNat)
    case atStart => exact ⟨0, by omega, rfl, HT, HB2⟩
    case round =>
      obtain ⟨k, hk, rfl, HTk, HBk⟩ := hrel
      clear HT HB2
      by_cases hkm : k < m
      · by_cases h13 : k < 13
        · have q1 : decide ((k : Int) < 13) = true := by simp; omega
          go_wp2_with fail
          refine (install_in _ _ _ _ HTk.out _ (3 + k) (by omega) (s_next k h13).1 (s_next k h13).2).mono ?_
          rintro e w3 ⟨rfl, ht⟩
          have HT3 := Aside0.mk ht
          clear ht
          have e3 : ((3 + k : Nat) : Int) = 3 + (k : Int) := by omega
          rw [e3]
          clear e3
          go_wp2_with fail
          go_roundw
          case rel =>
            refine ⟨k + 1, by omega, by go_num, ⟨?_⟩, ⟨?_⟩⟩
            · simp only [sV, sI]; rw [if_pos h13, if_pos h13]; exact HT3.out.1
            · exact Kept.below HBk.out HT3.out.2 (by have := HG.out; have := hz.out; omega) (by have := HBk.out.size; omega)
          case measure => simp [intOf]; omega
        · have q1 : decide ((k : Int) < 13) = false := by simp; omega
          have q2 : ¬ ((k : Int) < 13) := by omega
          go_wp2_with fail
          refine (install_full _ _ _ _ HTk.out _ (s_full k (by omega))).mono ?_
          rintro e w3 ⟨rfl, rfl⟩
          go_wp2_with fail
          go_roundw
          case rel =>
            refine ⟨k + 1, by omega, by go_num, ⟨?_⟩, HBk⟩
            simp only [sV, sI]; rw [if_neg h13, if_neg h13]; exact HTk.out
          case measure => simp [intOf]; omega
      · obtain rfl : k = m := by omega
        have hs := Aside0.mk (s_num k hm)
        go_wp2_with fail
        refine (len_is _ _ _ _ HTk.out).mono ?_
        rintro e w3 ⟨rfl, rfl⟩
        rw [hs.out]
        by_cases h3 : 3 + (k : Int) ≤ 16
        · rw [if_pos h3]
          go_wp2_with fail
          go_ret
          exact ⟨by first | rfl | simp, HBk.out⟩
        · rw [if_neg h3]
          go_wp2_with fail
          go_ret
          exact ⟨by first | rfl | simp, HBk.out⟩
end Go.Proofs.Ytlohaefhigbdjaa.Fds
