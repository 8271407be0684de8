/- Part of the proof of TopVerdictSaid. -/
import Derived.Test.YtidnojkijfinaaaQFns2
import Derived.Test.YtidnojkijfinaaaQTpLex
import Derived.Test.YtidnojkijfinaaaQTpVm
namespace Go.Proofs.Ytidnojkijfinaaa.Fns
open Go.RowKit Go.Proofs.YtidnojkijfinaaaW.PrintWords Go.Proofs.YtidnojkijfinaaaW.PrintLast Go.Proofs.YtidnojkijfinaaaW.PrintMore
attribute [local go_sem] max2_int min2_int max_two min_two max_three min_three max_four min_four
set_option linter.unusedVariables false
set_option linter.unusedSimpArgs false
def AllAns (w : World) (toks : List S68) (er at_ : Int) (e : Ending) (w' : World) : Prop :=
  ∃ v, e = .returned (.tuple #[v, .int .i64 er, .int .i64 at_]) ∧ k68.R 68 w' w.heap.size (fun _ => True) v toks ∧ Below w.heap.size w w'
set_option maxHeartbeats 8000000 in
set_option maxRecDepth 100000 in
theorem all_calls (k : Nat) (s : ByteArray) (toks : List S68) (er at_ : Int) (w : World) (h : lex_All.f k s = some (toks, er, at_)) :
    Calls Try.prog 14 #[.string s] w fun e w' => AllAns w toks er at_ e w' := by
  have hu68 := Try.underlying68
  unfold lex_All.f at h
  by_cases h1 : (s.size : Int) > 8192
  · rw [if_pos h1] at h
    simp only [Option.some.injEq, Prod.mk.injEq] at h
    obtain ⟨rfl, rfl, rfl⟩ := h
    have e1 : decide ((8192 : Int) < (s.size : Int)) = true := decide_eq_true h1
    have e2 : decide (8192 < s.size) = true := decide_eq_true (by omega)
    clear h1
    go_enter Try.func14, Try.ntmps14
    go_wp2
    go_ret3
    exact ⟨_, rfl, Kd.R_nil _ _ _ _ _, Below.refl _ _⟩
  · rw [if_neg h1] at h
    have e1 : decide ((8192 : Int) < (s.size : Int)) = false := decide_eq_false h1
    have e2 : decide (8192 < s.size) = false := decide_eq_false (by omega)
    replace h := Option.bind_eq_some_iff.mp h
    obtain ⟨t0, hb0, h⟩ := h
    replace h : lex_All.l0 k s [] t0 = some (toks, er, at_) := h
    have H := Aside0.mk h
    have HB0 := Aside0.mk hb0
    have SZ := Aside0.mk (show s.size ≤ 8192 by omega)
    clear h hb0 h1
    go_enter Try.func14, Try.ntmps14
    go_wp2_with fail
    refine (lex_blank.calls s t0 w HB0.out).mono ?_
    rintro e w1 ⟨rfl, hb⟩
    have B1 := Aside0.mk hb
    clear hb
    go_wp2_with fail
    go_loopg [5, 6] k (fun kq v5 v6 wr => ∃ (xs : List S68) (x : Int), v6 = .int .i64 x ∧ Aside0 (lex_All.l0 kq s xs x = some (toks, er, at_)) ∧ Aside0 (k68.R 68 wr w.heap.size (fun _ => True) v5 xs) ∧ Aside0 (Below w.heap.size w wr))
    case atStart => exact ⟨[], t0, rfl, H, ⟨Kd.R_nil _ _ _ _ _⟩, B1⟩
    case round =>
      clear H HB0 B1
      obtain ⟨xs, x, rfl, HA, HR, HB⟩ := hrel
      cases gk with
      | zero => exact absurd HA.out (by simp [lex_All.l0])
      | succ k1 =>
        have h := HA.out
        simp only [lex_All.l0] at h
        clear HA
        by_cases c1 : x < (s.size : Int)
        · rw [if_pos c1] at h
          have d1 : decide (x < (s.size : Int)) = true := decide_eq_true c1
          by_cases c2 : 0 ≤ x
          rotate_left
          · rw [if_neg c2] at h; cases h
          rw [if_pos c2] at h
          by_cases c3 : x ≤ (s.size : Int)
          rotate_left
          · rw [if_neg c3] at h; cases h
          rw [if_pos c3] at h
          replace h := Option.bind_eq_some_iff.mp h
          obtain ⟨⟨o1, o2, o3, o4, o5⟩, ho, h⟩ := h
          simp only at h
          obtain ⟨x, rfl⟩ := Int.eq_ofNat_of_zero_le c2
          rw [Int.toNat_natCast] at ho
          have p1 : (x ≤ s.size) = True := eq_true (by omega)
          have p2 : ((x : Int) ≤ (s.size : Int)) = True := eq_true (by omega)
          have p3 : (0 ≤ (x : Int)) = True := eq_true (by omega)
          have d1' : decide (x < s.size) = true := decide_eq_true (by omega)
          have HO := Aside0.mk ho
          have H := Aside0.mk h
          have C1 := Aside0.mk c1
          clear c1 c2 c3 h ho
          go_wp2_with fail
          refine (lex_one.calls k1 _ o1 o2 o3 o4 o5 wr HO.out).mono ?_
          rintro e w2 ⟨rfl, hb⟩
          have HB2 := Aside0.mk (below_then HB.out HB.out.size hb)
          have HR2 := Aside0.mk (Kd.R_below HR.out hb)
          clear hb
          have h := H.out
          by_cases c5 : o5 = 0
          · rw [if_pos c5] at h
            subst c5
            by_cases c6 : xs.length < 3518437208883
            rotate_left
            · rw [if_neg c6] at h; cases h
            rw [if_pos c6] at h
            by_cases c7 : 0 ≤ wrap64 ((x : Int) + (o3.size : Int))
            rotate_left
            · rw [if_neg c7] at h; cases h
            rw [if_pos c7] at h
            by_cases c8 : wrap64 ((x : Int) + (o3.size : Int)) ≤ (s.size : Int)
            rotate_left
            · rw [if_neg c8] at h; cases h
            rw [if_pos c8] at h
            replace h := Option.bind_eq_some_iff.mp h
            obtain ⟨t2, hbl, h⟩ := h
            obtain ⟨y, hy⟩ := Int.eq_ofNat_of_zero_le c7
            rw [hy, Int.toNat_natCast] at hbl
            rw [hy] at h c8
            have HBL := Aside0.mk hbl
            have H2 := Aside0.mk h
            have L6 := Aside0.mk c6
            have HY := Aside0.mk hy
            have q1 : (y ≤ s.size) = True := eq_true (by omega)
            have q2 : ((y : Int) ≤ (s.size : Int)) = True := eq_true (by omega)
            have q3 : (0 ≤ (y : Int)) = True := eq_true (by omega)
            clear c6 c7 c8 h hbl hy H HR HB
            go_wp2_with (first
              | ((with_reducible refine gate_dst (N := 34) rfl ?_); refine Kd.R_append k68 (w0 := w) w.heap.size rfl (.tmp 31) (.tmp 33) 55 68 _ 40 rfl Try.underlying55 info68 rfl (by decide) (by decide) _ xs ⟨o1, x, o3, o4⟩ _ (fun _ => True) (fun _ => False) rfl (by show Value.slice (some ⟨w2.heap.size + 1, 0, none⟩) 1 1 = _; simp) (k68_mkM _ _ _ ⟨o1, x, o3, o4⟩) (fun _ h => h.elim) (fun _ _ => trivial) (Kd.R_alloc HR2.out _) (below_alloc HB2.out _) (below_alloc HB2.out _).size ?aL ?_; (case aL => have := L6.out; omega); intro v5 w5 ho5 hb5 hg5 hat5; have HR5 := Aside0.mk ho5; have HB5 := Aside0.mk hb5; have A5 := Aside0.mk (gr_blk hg5 (blk_new w2 (.cells #[.int .i64 o1, .int .i64 x, .string o3, .int .u64 o4] 68 (0, 0))) (fun e => Nat.lt_irrefl _ (Kd.R_lt HR2.out _ e.symm))); have c5 : w5.cell? ⟨w2.heap.size, 2, none⟩ = some (.string o3) := (blk_cell A5.out 2).trans rfl; have hy := HY.out; clear ho5 hb5 hg5 hat5)
              | fail)
            refine (lex_blank.calls _ t2 w5 HBL.out).mono ?_
            rintro e w6 ⟨rfl, hb⟩
            have HB6 := Aside0.mk (below_then HB5.out HB5.out.size hb)
            have HR6 := Aside0.mk (Kd.R_below HR5.out hb)
            clear hb HB5 HR5 c5 A5 HB2 HR2
            go_wp2_with fail
            go_roundg k1
            case measure => omega
            case rel => exact ⟨xs ++ [⟨o1, x, o3, o4⟩], wrap64 ((y : Int) + t2), rfl, H2, HR6, HB6⟩
          · rw [if_neg c5] at h
            simp only [Option.some.injEq, Prod.mk.injEq] at h
            obtain ⟨rfl, rfl, rfl⟩ := h
            have d5 : (o5 != 0) = true := by simpa using c5
            clear c5
            go_wp2_with fail
            go_ret3
            exact ⟨_, rfl, Kd.R_nil _ _ _ _ _, below_alloc HB2.out _⟩
        · rw [if_neg c1] at h
          have d1 : decide (x < (s.size : Int)) = false := decide_eq_false c1
          by_cases c6 : xs.length < 3518437208883
          rotate_left
          · rw [if_neg c6] at h; cases h
          rw [if_pos c6] at h
          simp only [Option.some.injEq, Prod.mk.injEq] at h
          obtain ⟨rfl, rfl, rfl⟩ := h
          have L6 := Aside0.mk c6
          clear c6 c1
          go_wp2_with (first
            | ((with_reducible refine gate_dst (N := 51) rfl ?_); refine Kd.R_append k68 (w0 := w) w.heap.size rfl (.tmp 46) (.tmp 50) 55 68 _ 40 rfl Try.underlying55 info68 rfl (by decide) (by decide) _ xs ⟨4, s.size, ⟨#[]⟩, 0⟩ _ (fun _ => True) (fun _ => False) rfl rfl (k68_mkM _ _ _ ⟨4, s.size, ⟨#[]⟩, 0⟩) (fun _ h => h.elim) (fun _ _ => trivial) HR.out HB.out HB.out.size ?aL ?_; (case aL => have := L6.out; omega); intro v5 w5 ho5 hb5 hg5 hat5; have HR5 := Aside0.mk ho5; have HB5 := Aside0.mk hb5; clear ho5 hb5 hg5 hat5)
            | fail)
          go_ret3
          exact ⟨v5, rfl, HR5.out, HB5.out⟩
end Go.Proofs.Ytidnojkijfinaaa.Fns
