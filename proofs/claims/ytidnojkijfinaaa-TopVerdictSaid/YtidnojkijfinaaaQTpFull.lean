/- Part of the proof of TopVerdictSaid. -/
import Derived.Test.YtidnojkijfinaaaQTpStack
namespace Go.Proofs.Ytidnojkijfinaaa.Fns
open Go.RowKit Go.Proofs.YtidnojkijfinaaaW.PrintWords Go.Proofs.YtidnojkijfinaaaW.PrintLast Go.Proofs.YtidnojkijfinaaaW.PrintMore
attribute [local go_sem] max2_int min2_int max_two min_two max_three min_three max_four min_four
set_option linter.unusedVariables false
set_option linter.unusedSimpArgs false
set_option maxHeartbeats 8000000 in
set_option maxRecDepth 100000 in
theorem attach_full (A : Option Addr) (c : Nat) (l : List S84) (w : World) (g : Nat) (ps : List (List S84)) (cost : Int) (hr : k84.C w A l.length l) (hl : ProgOk l) (hs : Stk w g ps cost) (hps : ps.length < 32) (hc0 : 0 ≤ cost) (hcm : cost ≤ 32768) (hc : 32768 < cost + l.length + 4) :
    Calls Try.prog 7 #[.pointer (some ⟨g, 0, none⟩), .slice A l.length c] w fun e w' => e = .returned (.int .i64 16) ∧ Below w.heap.size w w' := by
  obtain ⟨B, cb, h1, h2, h3⟩ := hs
  have HR := Aside0.mk hr
  have HL := Aside0.mk hl
  have H1 := Aside0.mk h1
  have hl0 := hl.1
  have hlm := hl.2.1
  clear hr hl h1 h3
  go_enter Try.func7, Try.ntmps7
  go_wp2_with fail
  refine (check_ok A c l _ HR.out HL.out).mono ?_
  rintro e w1 ⟨rfl, hb⟩
  have HB1 := Aside0.mk hb
  have k1 := blk_below H1.out hb
  clear hb
  have c0 : w1.cell? ⟨g, 0, none⟩ = some (.slice B ps.length cb) := (blk_cell k1 0).trans rfl
  have c1 : w1.cell? ⟨g, 1, none⟩ = some (.int .i64 cost) := (blk_cell k1 1).trans rfl
  clear k1
  have e1 : decide ((32 : Int) ≤ (ps.length : Int)) = false := decide_eq_false (by omega)
  have e2 : decide (32 ≤ ps.length) = false := decide_eq_false (by omega)
  have e3 : decide (32768 < cost + (l.length : Int) + 4) = true := decide_eq_true (by omega)
  go_wp2
  go_ret
  exact ⟨rfl, HB1.out⟩
end Go.Proofs.Ytidnojkijfinaaa.Fns
