/- Part of the proof of TopVerdictSaid. -/
import Derived.Test.YtidnojkijfinaaaQTpBase
import Derived.LoopTactic
import Derived.Laws.RangeAny
namespace Go.Proofs.Ytidnojkijfinaaa.Fns
open Go.RowKit Go.Proofs.YtidnojkijfinaaaW.PrintWords Go.Proofs.YtidnojkijfinaaaW.PrintLast Go.Proofs.YtidnojkijfinaaaW.PrintMore
attribute [local go_sem] max2_int min2_int max_two min_two max_three min_three max_four min_four
set_option linter.unusedVariables false
set_option linter.unusedSimpArgs false
def smallB (c : Int) : Bool := decide (97 ≤ c) && decide (c ≤ 122)
def digitB (c : Int) : Bool := decide (48 ≤ c) && decide (c ≤ 57)
def goesB (c : Int) : Bool := smallB c || digitB c || c == 95
theorem width_pos (s : ByteArray) (pos : Nat) (h : pos < s.size) : 1 ≤ (Utf8.decode s pos).2 := by
  by_cases ha : (s[pos]'h).toNat < 128
  · rw [decode_ascii s pos h ha]
    exact Nat.le_refl _
  · exact (decode_high s pos h (by omega)).2
theorem below_iter {B : Nat} {a b : World} (h : Below B a b) (hB : B ≤ b.heap.size) (s : ByteArray) (p : Nat) : Below B a (b.iter s p) := h.alloc hB _
set_option maxHeartbeats 4000000 in
set_option maxRecDepth 100000 in
theorem goes_at (c : Int) (w : World) : Calls Try.prog 70 #[.int .i32 c] w fun e w' => e = .returned (.bool (goesB c)) ∧ w' = w := by
  cases h1 : decide (97 ≤ c) <;> cases h2 : decide (c ≤ 122) <;> cases h3 : decide (48 ≤ c) <;> cases h4 : decide (c ≤ 57) <;> cases h5 : c == 95
  all_goals
    go_enter Try.func70, Try.ntmps70
    go_wp2
    go_ret
    exact ⟨by simp only [goesB, smallB, digitB, h1, h2, h3, h4, h5]; rfl, rfl⟩
def lengthAt (s : ByteArray) : Nat → Nat → Nat
  | 0, _ => s.size
  | d + 1, pos => if pos < s.size then (if goesB ((Utf8.decode s pos).1 : Int) then lengthAt s d (pos + (Utf8.decode s pos).2) else pos) else s.size
def lex_length.f (s : ByteArray) : Option Int := some ((lengthAt s s.size 0 : Nat) : Int)
set_option maxHeartbeats 4000000 in
set_option maxRecDepth 100000 in
theorem lex_length.calls (s : ByteArray) (r : Int) (w : World) (h : lex_length.f s = some r) :
    Calls Try.prog 52 #[.string s] w fun e w' => e = .returned (.int .i64 r) ∧ Below w.heap.size w w' := by
  obtain rfl : ((lengthAt s s.size 0 : Nat) : Int) = r := by unfold lex_length.f at h; injection h
  clear h
  go_enter Try.func52, Try.ntmps52
  go_wp2
  go_loopw [2] (fun n w' => ∃ (pos b : Nat), w' = w.iter s pos ∧ Aside0 (lengthAt s b pos = lengthAt s s.size 0) ∧ Aside0 (s.size ≤ pos + b)) (fun _ w' => s.size - w'.iterPos w.heap.size)
  case atStart => exact ⟨0, s.size, rfl, ⟨rfl⟩, ⟨by omega⟩⟩
  case round =>
    obtain ⟨pos, b, rfl, HC, HB⟩ := hrel
    by_cases hp : pos < s.size
    · have hnx : ∀ ty, (Instr.next (.pointer (some ⟨w.heap.size, 0, none⟩)) true ty).run Try.prog (w.iter s pos) = _ := fun ty => run_next_any w s pos ty hp
      have HP := Aside0.mk hp
      have HWD := Aside0.mk (width_pos s pos hp)
      clear hp
      go_wp2_with fail
      refine (goes_at _ _).mono ?_
      rintro e w1 ⟨rfl, rfl⟩
      have HCC : ∃ b', b = b' + 1 := by
        have := HP.out
        have := HB.out
        exact ⟨b - 1, by omega⟩
      obtain ⟨b', rfl⟩ := HCC
      cases hg : goesB ((Utf8.decode s pos).1 : Int) with
      | true =>
        have hc := HC.out
        rw [lengthAt, if_pos HP.out, if_pos hg] at hc
        have HC' := Aside0.mk hc
        clear hc hg
        go_wp2_with fail
        go_roundw
        case rel => exact ⟨_, b', rfl, HC', ⟨by have := HB.out; have := HWD.out; omega⟩⟩
        case measure =>
          have := HP.out
          have := HWD.out
          simp
          omega
      | false =>
        have hc := HC.out
        rw [lengthAt, if_pos HP.out, if_neg (by rw [hg]; simp)] at hc
        have HC' := Aside0.mk hc
        clear hc hg
        go_wp2_with fail
        go_ret
        exact ⟨by have := HC'.out; simp; omega, below_iter (Below.refl _ _) (Nat.le_refl _) _ _⟩
    · have hnx : ∀ ty, (Instr.next (.pointer (some ⟨w.heap.size, 0, none⟩)) true ty).run Try.prog (w.iter s pos) = _ := fun ty => run_next_end w s pos ty hp
      have hc : s.size = lengthAt s s.size 0 := by
        rw [← HC.out]
        cases b with
        | zero => rfl
        | succ b => rw [lengthAt, if_neg hp]
      have HC' := Aside0.mk hc
      clear hc
      go_wp2_with fail
      go_ret
      exact ⟨by have := HC'.out; simp; omega, below_iter (Below.refl _ _) (Nat.le_refl _) _ _⟩
def blankB (c : Int) : Bool := c == 32 || c == 9 || c == 10 || c == 13
def blankAt (s : ByteArray) : Nat → Nat → Bool → Nat
  | 0, _, _ => s.size
  | d + 1, pos, note => if pos < s.size then (if note then blankAt s d (pos + (Utf8.decode s pos).2) (((Utf8.decode s pos).1 : Int) != 10) else if ((Utf8.decode s pos).1 : Int) == 35 then blankAt s d (pos + (Utf8.decode s pos).2) true else if blankB ((Utf8.decode s pos).1 : Int) then blankAt s d (pos + (Utf8.decode s pos).2) false else pos) else s.size
def lex_blank.f (s : ByteArray) : Option Int := some ((blankAt s s.size 0 false : Nat) : Int)
set_option maxHeartbeats 4000000 in
set_option maxRecDepth 100000 in
theorem lex_blank.calls (s : ByteArray) (r : Int) (w : World) (h : lex_blank.f s = some r) :
    Calls Try.prog 32 #[.string s] w fun e w' => e = .returned (.int .i64 r) ∧ Below w.heap.size w w' := by
  obtain rfl : ((blankAt s s.size 0 false : Nat) : Int) = r := by unfold lex_blank.f at h; injection h
  clear h
  go_enter Try.func32, Try.ntmps32
  go_wp2_with fail
  go_step3
  go_wp2_with fail
  go_step3
  go_wp2_with fail
  go_loopw [0, 3] (fun v0 n w' => v0 = .string s ∧ ∃ (pos b : Nat) (note : Bool), w' = w.iter s pos ∧ n = .bool note ∧ Aside0 (blankAt s b pos note = blankAt s s.size 0 false) ∧ Aside0 (s.size ≤ pos + b)) (fun _ _ w' => s.size - w'.iterPos w.heap.size)
  case atStart => exact ⟨rfl, 0, s.size, false, rfl, rfl, ⟨rfl⟩, ⟨by omega⟩⟩
  case round =>
    obtain ⟨rfl, pos, b, note, rfl, rfl, HC, HB⟩ := hrel
    by_cases hp : pos < s.size
    · have hnx : ∀ ty, (Instr.next (.pointer (some ⟨w.heap.size, 0, none⟩)) true ty).run Try.prog (w.iter s pos) = _ := fun ty => run_next_any w s pos ty hp
      have HP := Aside0.mk hp
      have HWD := Aside0.mk (width_pos s pos hp)
      clear hp
      have HCC : ∃ b', b = b' + 1 := by
        have := HP.out
        have := HB.out
        exact ⟨b - 1, by omega⟩
      obtain ⟨b', rfl⟩ := HCC
      have hc := HC.out
      rw [blankAt, if_pos HP.out] at hc
      obtain ⟨c, hcc⟩ : ∃ c, Utf8.decode s pos = c := ⟨_, rfl⟩
      rw [hcc] at hc hnx HWD
      clear hcc
      cases note with
      | true =>
        rw [if_pos rfl] at hc
        cases hg : ((c.1 : Int) != 10) with
        | true =>
          rw [hg] at hc
          have HC' := Aside0.mk hc
          clear hc
          go_wp2_with fail
          go_roundw
          case rel => exact ⟨rfl, _, b', true, rfl, rfl, HC', ⟨by have := HB.out; have := HWD.out; omega⟩⟩
          case measure =>
            have := HP.out
            have := HWD.out
            simp
            omega
        | false =>
          rw [hg] at hc
          have HC' := Aside0.mk hc
          clear hc
          go_wp2_with fail
          go_roundw
          case rel => exact ⟨rfl, _, b', false, rfl, rfl, HC', ⟨by have := HB.out; have := HWD.out; omega⟩⟩
          case measure =>
            have := HP.out
            have := HWD.out
            simp
            omega
      | false =>
        rw [if_neg (by simp)] at hc
        cases hg : ((c.1 : Int) == 35) with
        | true =>
          rw [hg, if_pos rfl] at hc
          have HC' := Aside0.mk hc
          clear hc
          go_wp2_with fail
          go_roundw
          case rel => exact ⟨rfl, _, b', true, rfl, rfl, HC', ⟨by have := HB.out; have := HWD.out; omega⟩⟩
          case measure =>
            have := HP.out
            have := HWD.out
            simp
            omega
        | false =>
          rw [hg, if_neg (by simp)] at hc
          cases hb : blankB (c.1 : Int) with
          | true =>
            rw [hb, if_pos rfl] at hc
            have HC' := Aside0.mk hc
            have HBB := Aside0.mk hb
            clear hc hb
            cases g1 : ((c.1 : Int) == 32) <;> cases g2 : ((c.1 : Int) == 9) <;> cases g3 : ((c.1 : Int) == 10) <;> cases g4 : ((c.1 : Int) == 13)
            · have := HBB.out
              simp only [blankB, g1, g2, g3, g4] at this
              cases this
            all_goals
              go_wp2_with fail
              go_roundw
              case rel => exact ⟨rfl, _, b', false, rfl, rfl, HC', ⟨by have := HB.out; have := HWD.out; omega⟩⟩
              case measure =>
                have := HP.out
                have := HWD.out
                simp
                omega
          | false =>
            rw [hb, if_neg (by simp)] at hc
            have HC' := Aside0.mk hc
            clear hc
            obtain ⟨g1, g2, g3, g4⟩ : ((c.1 : Int) == 32) = false ∧ ((c.1 : Int) == 9) = false ∧ ((c.1 : Int) == 10) = false ∧ ((c.1 : Int) == 13) = false := by
              simp only [blankB, Bool.or_eq_false_iff] at hb
              exact ⟨hb.1.1.1, hb.1.1.2, hb.1.2, hb.2⟩
            clear hb
            have p1 : (0 ≤ (pos : Int)) = True := eq_true (by omega)
            have p2 : ((pos : Int) ≤ (s.size : Int)) = True := eq_true (by have := HP.out; omega)
            have p3 : (pos ≤ s.size) = True := eq_true (by have := HP.out; omega)
            have HSZ := Aside0.mk (show (s.extract 0 pos).size = pos by have := HP.out; simp; omega)
            go_wp2_with fail
            simp only [Exit.noGoto_ret]
            go_ret
            exact ⟨by have := HC'.out; simp; omega, below_iter (Below.refl _ _) (Nat.le_refl _) _ _⟩
    · have hnx : ∀ ty, (Instr.next (.pointer (some ⟨w.heap.size, 0, none⟩)) true ty).run Try.prog (w.iter s pos) = _ := fun ty => run_next_end w s pos ty hp
      have hc : s.size = blankAt s s.size 0 false := by
        rw [← HC.out]
        cases b with
        | zero => rfl
        | succ b => rw [blankAt, if_neg hp]
      have HC' := Aside0.mk hc
      clear hc
      go_wp2_with fail
      simp only [Exit.noGoto_ret]
      go_ret
      exact ⟨by have := HC'.out; simp; omega, below_iter (Below.refl _ _) (Nat.le_refl _) _ _⟩
end Go.Proofs.Ytidnojkijfinaaa.Fns
