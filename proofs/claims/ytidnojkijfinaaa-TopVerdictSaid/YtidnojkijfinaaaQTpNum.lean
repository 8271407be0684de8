/- Part of the proof of TopVerdictSaid. -/
import Derived.Test.YtidnojkijfinaaaQTpLex
import Derived.LoopTactic
import Derived.Laws.RangeAny
namespace Go.Proofs.Ytidnojkijfinaaa.Fns
open Go.RowKit Go.Proofs.YtidnojkijfinaaaW.PrintWords Go.Proofs.YtidnojkijfinaaaW.PrintLast Go.Proofs.YtidnojkijfinaaaW.PrintMore
attribute [local go_sem] max2_int min2_int max_two min_two max_three min_three max_four min_four
set_option linter.unusedVariables false
set_option linter.unusedSimpArgs false
def worthI (c : Int) : Int := if digitB c then c - 48 else if 97 ≤ c ∧ c ≤ 102 then c - 97 + 10 else 99
set_option maxHeartbeats 4000000 in
set_option maxRecDepth 100000 in
theorem worth_at (c : Int) (h0 : 0 ≤ c) (hm : c ≤ 2147483647) (w : World) : Calls Try.prog 71 #[.int .i32 c] w fun e w' => e = .returned (.int .u64 (worthI c)) ∧ w' = w := by
  by_cases h1 : 48 ≤ c ∧ c ≤ 57
  · have a1 : decide (48 ≤ c) = true := decide_eq_true h1.1
    have a2 : decide (c ≤ 57) = true := decide_eq_true h1.2
    have HW := Aside0.mk (show worthI c = c - 48 by simp [worthI, digitB, h1])
    go_enter Try.func71, Try.ntmps71
    go_wp2
    go_ret
    refine ⟨?_, rfl⟩
    rw [HW.out]
    rfl
  · have HW := Aside0.mk (show worthI c = if 97 ≤ c ∧ c ≤ 102 then c - 97 + 10 else 99 by
      rw [worthI, if_neg]
      rw [digitB, Bool.and_eq_true, decide_eq_true_eq, decide_eq_true_eq]
      exact h1)
    by_cases h2 : 97 ≤ c ∧ c ≤ 102
    · have a1 : decide (48 ≤ c) = true := decide_eq_true (by omega)
      have a2 : decide (c ≤ 57) = false := decide_eq_false (by omega)
      have a3 : decide (97 ≤ c) = true := decide_eq_true h2.1
      have a4 : decide (c ≤ 102) = true := decide_eq_true h2.2
      have HW2 := Aside0.mk (HW.out.trans (if_pos h2))
      go_enter Try.func71, Try.ntmps71
      go_wp2
      go_ret
      refine ⟨?_, rfl⟩
      rw [HW2.out]
      rfl
    · have HW2 := Aside0.mk (HW.out.trans (if_neg h2))
      cases a1 : decide (48 ≤ c) <;> cases a2 : decide (c ≤ 57) <;> cases a3 : decide (97 ≤ c) <;> cases a4 : decide (c ≤ 102)
      all_goals first
        | (exfalso; simp only [decide_eq_true_eq, decide_eq_false_iff_not] at a1 a2 a3 a4; omega)
        | (clear h1 h2
           go_enter Try.func71, Try.ntmps71
           go_wp2
           go_ret
           refine ⟨?_, rfl⟩
           rw [HW2.out]
           rfl)
theorem worthI_range (c : Int) (h : 0 ≤ c) : 0 ≤ worthI c ∧ worthI c ≤ 99 := by
  unfold worthI
  by_cases h1 : digitB c = true
  · rw [if_pos h1]
    simp only [digitB, Bool.and_eq_true, decide_eq_true_eq] at h1
    omega
  · rw [if_neg h1]
    split <;> omega
def numAt (s : ByteArray) (base : Int) : Nat → Nat → Int → Option Int
  | 0, _, n => some n
  | d + 1, pos, n => if pos < s.size then (if base ≤ worthI ((Utf8.decode s pos).1 : Int) ∨ (18446744073709551615 - worthI ((Utf8.decode s pos).1 : Int)) / base < n then none else numAt s base d (pos + (Utf8.decode s pos).2) (n * base + worthI ((Utf8.decode s pos).1 : Int))) else some n
def numR (o : Option Int) : Option (Int × Bool) := match o with
  | some n => some (n, true)
  | none => some (0, false)
def lex_number.f (s : ByteArray) : Option (Int × Bool) :=
  if 1 < s.size ∧ bt s 0 = 48 then (if bt s 1 ≠ 120 ∨ s.size < 3 ∨ 18 < s.size then some (0, false) else numR (numAt (s.extract 2 s.size) 16 (s.extract 2 s.size).size 0 0))
  else numR (numAt s 10 s.size 0 0)
set_option maxHeartbeats 4000000 in
set_option maxRecDepth 100000 in
theorem lex_number.calls (s : ByteArray) (r1 : Int) (r2 : Bool) (w : World) (h : lex_number.f s = some (r1, r2)) :
    Calls Try.prog 54 #[.string s] w fun e w' => e = .returned (.tuple #[.int .u64 r1, .bool r2]) ∧ Below w.heap.size w w' := by
  have HH := Aside0.mk h
  clear h
  go_enter Try.func54, Try.ntmps54
  go_upto_region 2 with (fail)
  go_cut [18] (fun v18 wc => v18 = .bool (decide (1 < s.size) && (bt s 0 == 48)) ∧ wc = w)
  case first =>
    clear HH
    by_cases h2 : 1 < s.size
    · have a1 : decide ((1 : Int) < (s.size : Int)) = true := decide_eq_true (by omega)
      have a1' : decide (1 < s.size) = true := decide_eq_true h2
      have hx0 : ∀ h : 0 < s.size, ((s[0]'h).toNat : Int) = bt s 0 := bt_at s 0
      have q0 : (0 < s.size) = True := eq_true (by omega)
      go_wp2
      go_meet
      case rel => exact ⟨by rw [a1']; rfl, rfl⟩
    · have a1 : decide ((1 : Int) < (s.size : Int)) = false := decide_eq_false (by omega)
      have a1' : decide (1 < s.size) = false := decide_eq_false h2
      go_wp2
      go_meet
      case rel => exact ⟨by rw [a1']; rfl, rfl⟩
  case rest =>
    obtain ⟨rfl, rfl⟩ := hcut
    go_upto_if 18 with (fail)
    go_cut [4, 5] (fun v4 v5 wd => ∃ (base : Int) (dg : ByteArray), v4 = .int .u64 base ∧ v5 = .string dg ∧ (base = 10 ∨ base = 16) ∧ Aside0 (numR (numAt dg base dg.size 0 0) = some (r1, r2)) ∧ Drawn0 wc wd)
    case first =>
      have hh := HH.out
      rw [lex_number.f] at hh
      clear HH
      cases hB : decide (1 < s.size) && bt s 0 == 48 with
      | false =>
        rw [if_neg (fun h => by rw [decide_eq_true h.1, h.2] at hB; cases hB)] at hh
        have HR' := Aside0.mk hh
        clear hh
        go_wp2
        go_meet
        case rel => exact ⟨10, s, rfl, rfl, .inl rfl, HR', Drawn0.refl _⟩
      | true =>
        have h2 : 1 < s.size ∧ bt s 0 = 48 := by simpa using hB
        rw [if_pos h2] at hh
        have HS := Aside0.mk h2.1
        have HR' := Aside0.mk hh
        clear hh h2 hB
        go_upto_region 3 with (fail)
        go_cut [31] (fun v31 wd => v31 = .bool ((bt s 1 != 120) || decide (s.size < 3) || decide (18 < s.size)) ∧ wd = wc)
        case first =>
          have hx1 : ∀ h : 1 < s.size, ((s[1]'h).toNat : Int) = bt s 1 := bt_at s 1
          have q1 : (1 < s.size) = True := eq_true HS.out
          clear HR'
          have qi1 : (1 < (s.size : Int)) = True := eq_true (by have := HS.out; omega)
          by_cases h10 : s.size < 3 ∧ ¬ 18 < s.size
          · have a1 : decide ((s.size : Int) < 3) = true := decide_eq_true (by omega)
            have a2 : decide ((18 : Int) < (s.size : Int)) = false := decide_eq_false (by omega)
            have a3 : decide (s.size < 3) = true := decide_eq_true h10.1
            have a4 : decide (18 < s.size) = false := decide_eq_false h10.2
            clear h10
            cases a0 : (bt s 1 != 120) <;>
            · go_wp2
              go_meet
              case rel => exact ⟨by rw [a3, a4, a0]; rfl, rfl⟩
          by_cases h01 : ¬ s.size < 3 ∧ 18 < s.size
          · have a1 : decide ((s.size : Int) < 3) = false := decide_eq_false (by omega)
            have a2 : decide ((18 : Int) < (s.size : Int)) = true := decide_eq_true (by omega)
            have a3 : decide (s.size < 3) = false := decide_eq_false h01.1
            have a4 : decide (18 < s.size) = true := decide_eq_true h01.2
            clear h01
            cases a0 : (bt s 1 != 120) <;>
            · go_wp2
              go_meet
              case rel => exact ⟨by rw [a3, a4, a0]; rfl, rfl⟩
          by_cases h00 : ¬ s.size < 3 ∧ ¬ 18 < s.size
          · have a1 : decide ((s.size : Int) < 3) = false := decide_eq_false (by omega)
            have a2 : decide ((18 : Int) < (s.size : Int)) = false := decide_eq_false (by omega)
            have a3 : decide (s.size < 3) = false := decide_eq_false h00.1
            have a4 : decide (18 < s.size) = false := decide_eq_false h00.2
            clear h00
            cases a0 : (bt s 1 != 120) <;>
            · go_wp2
              go_meet
              case rel => exact ⟨by rw [a3, a4, a0]; rfl, rfl⟩
          exact absurd (And.intro (show ¬ s.size < 3 by omega) (show ¬ 18 < s.size by omega)) h00
        case rest =>
          obtain ⟨rfl, rfl⟩ := hcut
          go_upto_if 31 with (fail)
          cases hC : (bt s 1 != 120) || decide (s.size < 3) || decide (18 < s.size) with
          | true =>
            have hh := HR'.out
            rw [if_pos (by simpa [or_assoc] using hC)] at hh
            have HR2 := Aside0.mk hh
            clear hh HR' hC
            injection HR2.out with hr
            injection hr with hr1 hr2
            subst hr1
            subst hr2
            go_wp2
            go_ret2
            exact ⟨rfl, Below.refl _ _⟩
          | false =>
            have hh := HR'.out
            rw [if_neg (fun h => by have := hC; simp at this; omega)] at hh
            have HR2 := Aside0.mk hh
            clear hh HR' hC
            have p1 : (2 ≤ (s.size : Int)) = True := eq_true (by have := HS.out; omega)
            have p2 : (2 ≤ s.size) = True := eq_true (by have := HS.out; omega)
            go_upto_region 5 with (fail)
            go_quiet (fail)
            go_wp2
            go_meet
            case rel => exact ⟨16, _, rfl, rfl, .inr rfl, HR2, ⟨nq, rfl⟩⟩
    case rest =>
      obtain ⟨base, dg, rfl, rfl, hb, HN, ⟨m0, rfl⟩⟩ := hcut
      have HB0 := Aside0.mk (pw_below_drewN (Below.refl wc.heap.size wc) m0)
      generalize wc.drewN m0 = w at HB0 ⊢
      have HBA := Aside0.mk hb
      clear hb HH
      go_wp2_with fail
      go_loopw [6] (fun n w' => ∃ (pos b : Nat) (n0 : Int), w' = w.iter dg pos ∧ n = .int .u64 n0 ∧ Aside0 (numAt dg base b pos n0 = numAt dg base dg.size 0 0) ∧ Aside0 (dg.size ≤ pos + b) ∧ Aside0 (0 ≤ n0 ∧ n0 ≤ 18446744073709551615)) (fun _ w' => dg.size - w'.iterPos w.heap.size)
      case atStart => exact ⟨0, dg.size, 0, rfl, rfl, ⟨rfl⟩, ⟨by omega⟩, ⟨by omega⟩⟩
      case round =>
        obtain ⟨pos, b, n0, rfl, rfl, HC, HB, HR⟩ := hrel
        by_cases hp : pos < dg.size
        · have hnx : ∀ ty, (Instr.next (.pointer (some ⟨w.heap.size, 0, none⟩)) true ty).run Try.prog (w.iter dg pos) = _ := fun ty => run_next_any w dg pos ty hp
          have HP := Aside0.mk hp
          have HWD := Aside0.mk (width_pos dg pos hp)
          clear hp
          have HCC : ∃ b', b = b' + 1 := by
            have := HP.out
            have := HB.out
            exact ⟨b - 1, by omega⟩
          obtain ⟨b', rfl⟩ := HCC
          have hc := HC.out
          rw [numAt, if_pos HP.out] at hc
          have hcl := decode_le dg pos
          obtain ⟨c, hcc⟩ : ∃ c, Utf8.decode dg pos = c := ⟨_, rfl⟩
          rw [hcc] at hc hnx HWD hcl
          clear hcc
          have HCL := Aside0.mk hcl
          have hx := worthI_range (c.1 : Int) (by omega)
          have HWC := Aside0.mk (fun w => worth_at (c.1 : Int) (by omega) (by omega) w)
          obtain ⟨x, hxe⟩ : ∃ x, worthI (c.1 : Int) = x := ⟨_, rfl⟩
          rw [hxe] at hc hx HWC
          clear hxe hcl HC
          have HX := Aside0.mk hx
          have HC := Aside0.mk hc
          clear hc
          go_wp2_with fail
          refine (HWC.out _).mono ?_
          rintro e w1 ⟨rfl, rfl⟩
          have hc := HC.out
          have hx := HX.out
          have hr := HR.out
          by_cases g1 : base ≤ x
          · have e1 : decide (base ≤ x) = true := decide_eq_true g1
            rw [if_pos (.inl g1)] at hc
            have hn := HN.out
            rw [← hc] at hn
            simp only [numR] at hn
            injection hn with hr
            injection hr with hr1 hr2
            subst hr1
            subst hr2
            clear hc g1
            go_wp2
            go_ret2
            exact ⟨rfl, below_iter (HB0.out) (below_size HB0.out) _ _⟩
          · have e1 : decide (base ≤ x) = false := decide_eq_false g1
            clear HX HR
            rcases HBA.out with rfl | rfl
            · by_cases g2 : (18446744073709551615 - x) / 10 < n0
              · have e2 : decide ((18446744073709551615 - x) / 10 < n0) = true := decide_eq_true g2
                rw [if_pos (.inr g2)] at hc
                have hn := HN.out
                rw [← hc] at hn
                simp only [numR] at hn
                injection hn with hr
                injection hr with hr1 hr2
                subst hr1
                subst hr2
                clear hc g1 g2
                go_wp2
                go_ret2
                exact ⟨rfl, below_iter (HB0.out) (below_size HB0.out) _ _⟩
              · have e2 : decide ((18446744073709551615 - x) / 10 < n0) = false := decide_eq_false g2
                rw [if_neg (by omega)] at hc
                have HC' := Aside0.mk hc
                clear hc
                go_wp2
                refine ⟨⟨_, b', _, rfl, rfl, HC', ⟨by have := HB.out; have := HWD.out; omega⟩, ⟨by omega⟩⟩, ?_⟩
                have := HP.out
                have := HWD.out
                simp
                omega
            · by_cases g2 : (18446744073709551615 - x) / 16 < n0
              · have e2 : decide ((18446744073709551615 - x) / 16 < n0) = true := decide_eq_true g2
                rw [if_pos (.inr g2)] at hc
                have hn := HN.out
                rw [← hc] at hn
                simp only [numR] at hn
                injection hn with hr
                injection hr with hr1 hr2
                subst hr1
                subst hr2
                clear hc g1 g2
                go_wp2
                go_ret2
                exact ⟨rfl, below_iter (HB0.out) (below_size HB0.out) _ _⟩
              · have e2 : decide ((18446744073709551615 - x) / 16 < n0) = false := decide_eq_false g2
                rw [if_neg (by omega)] at hc
                have HC' := Aside0.mk hc
                clear hc
                go_wp2
                refine ⟨⟨_, b', _, rfl, rfl, HC', ⟨by have := HB.out; have := HWD.out; omega⟩, ⟨by omega⟩⟩, ?_⟩
                have := HP.out
                have := HWD.out
                simp
                omega
        · have hnx : ∀ ty, (Instr.next (.pointer (some ⟨w.heap.size, 0, none⟩)) true ty).run Try.prog (w.iter dg pos) = _ := fun ty => run_next_end w dg pos ty hp
          have hc : some n0 = numAt dg base dg.size 0 0 := by
            rw [← HC.out]
            cases b with
            | zero => rfl
            | succ b => rw [numAt, if_neg hp]
          have hn := HN.out
          rw [← hc] at hn
          simp only [numR] at hn
          injection hn with hr
          injection hr with hr1 hr2
          subst hr1
          subst hr2
          clear hc
          go_wp2_with fail
          go_ret2
          exact ⟨rfl, below_iter (HB0.out) (below_size HB0.out) _ _⟩
end Go.Proofs.Ytidnojkijfinaaa.Fns
