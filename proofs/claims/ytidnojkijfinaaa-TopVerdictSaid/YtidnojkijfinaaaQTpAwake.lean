/- Part of the proof of TopVerdictSaid. -/
import Derived.Test.YtidnojkijfinaaaQTpTopP
import Derived.Test.YtidnojkijfinaaaQTpComp
import Derived.Test.YtidnojkijfinaaaQTpFull
namespace Go.Proofs.Ytidnojkijfinaaa.Fns
open Go.RowKit Go.Maps Go.Proofs.YtidnojkijfinaaaW.PrintWords Go.Proofs.YtidnojkijfinaaaW.PrintLast Go.Proofs.YtidnojkijfinaaaW.PrintMore
attribute [local go_sem] max2_int min2_int max_two min_two max_three min_three max_four min_four
set_option linter.unusedVariables false
set_option linter.unusedSimpArgs false
theorem tokA : TokOk toksA := by
  refine ⟨of_decide_eq_true (by kernel_rfl), of_decide_eq_true (by kernel_rfl), fun h => ?_⟩
  have e : (toksA.getD (toksA.length - 1) z68).f0 = 4 := by kernel_rfl
  rw [List.getD_eq_getElem?_getD, List.getElem?_eq_getElem h] at e
  exact e
theorem inA : RulesIn rulesA := by
  obtain ⟨at_, h⟩ := lexA
  exact body_in (lex_u64 h) bodyA
theorem okA : RulesOk actA.f0 actA.f1 rulesA := by
  obtain ⟨ce, at_, h1, h2⟩ := check_total actA.f0 actA.f1 rulesA inA
  rw [checkA] at h1
  injection h1 with h1
  injection h1 with h1 h3
  exact (h2 h1.symm).2
theorem conds_ok {dk da : Int} {rs : List S72} (H : RulesOk dk da rs) : ∀ r ∈ rs, CondsOk r.f2 := by
  intro r hr c hc
  have h := (H.rule r hr).ok c hc
  exact ⟨h.a0, h.a5, h.o1, h.o6⟩
theorem stk_new {w : World} {g : Nat} (h : w.heap[g]? = some (.cells #[.slice none 0 0, .int .i64 0] 32 (0, 0))) : Stk w g [] 0 :=
  ⟨none, 0, h, Nat.le_refl _, fun W' _ => ⟨rfl, Nat.zero_le _, fun h0 => absurd h0 (by decide)⟩⟩
theorem below_grown_new {w w1 w2 : World} (h : Below w.heap.size w w1) (hg : w1.grownBy w2 (some w.heap.size)) : Below w.heap.size w w2 := h.grown hg h.size (fun j hj => by injection hj with hj; omega)
theorem dOkA : dataA.Ok := ⟨⟨by decide, by decide⟩, ⟨by decide, by decide⟩, fun n => by unfold DT.arg; split <;> exact ⟨by decide, by decide⟩⟩
set_option maxHeartbeats 16000000 in
set_option maxRecDepth 100000 in
theorem awake_calls (w : World) : Calls Try.prog 4 #[] w fun e w' => e = .returned (.bool true) ∧ Below w.heap.size w w' := by
  obtain ⟨at_, hlex⟩ := lexA
  have HLEX := Aside0.mk hlex
  clear hlex
  go_enter Try.func4, Try.ntmps4
  go_wp2_with fail
  refine (parse_calls 100 textA toksA 0 at_ _ HLEX.out (fun _ => tokA)).mono ?_
  rw [if_pos rfl, bodyA]
  rintro e w1 ⟨hb, v, rfl, hr⟩
  obtain ⟨dk, hdk⟩ : ∃ x, actA.f0 = x := ⟨_, rfl⟩
  obtain ⟨da, hda⟩ : ∃ x, actA.f1 = x := ⟨_, rfl⟩
  have RI := Aside0.mk inA
  have RO := Aside0.mk okA
  have CK := Aside0.mk checkA
  have LA := Aside0.mk lenA
  have DA := Aside0.mk decA
  rw [hdk, hda] at *
  obtain ⟨A, c, rfl⟩ := Kd.R_slice hr
  have HC := Aside0.mk (Kd.R_reads' hr).2.1
  have HR := Aside0.mk (Kd.R_reads' hr).2.2
  have HB := Aside0.mk hb
  clear hb hr hdk hda HLEX
  go_wp2_with fail
  have HB1 := Aside0.mk (below_alloc (Below.refl w1.heap.size w1) (.cells #[.int .i64 dk, .int .i64 da, .slice A rulesA.length c] 38 (0, 0)))
  refine (compile_calls dk da A c rulesA _ 0 (-1) (Kd.C_below HR.out HB1.out) HC.out RI.out CK.out (fun _ => RO.out)).mono ?_
  rintro e w2 ⟨hb, _, ha⟩
  rcases ha rfl with ⟨_, v2, rfl, hr2⟩ | ⟨hbad, _⟩
  rotate_left
  · exact absurd LA.out (by omega)
  obtain ⟨p, hp⟩ : ∃ p, progR dk da rulesA = p := ⟨_, rfl⟩
  have HPO := Aside0.mk (progR_ok RO.out LA.out)
  obtain ⟨K, hK⟩ := progR_runs RO.out dOkA
  rw [DA.out] at hK
  rw [hp] at hr2 LA HPO hK
  obtain ⟨A2, c2, rfl⟩ := Kd.R_slice hr2
  have HR2 := Aside0.mk (Kd.R_reads' hr2).2.2
  have HB2 := Aside0.mk (below_then HB.out HB.out.size (below_then HB1.out HB1.out.size hb))
  have HK := Aside0.mk hK
  clear hb ha hr2 hK hp HR HB HB1 RI RO CK DA
  go_wp2_with fail
  have HB3 := Aside0.mk (below_alloc (Below.refl w2.heap.size w2) (.cells #[.slice none 0 0, .int .i64 0] 32 (0, 0)))
  have hL := LA.out
  refine (attach_calls A2 c2 p _ w2.heap.size [] 0 (Kd.C_below HR2.out HB3.out) HPO.out (stk_new (blk_new w2 _)) (by decide) (Int.le_refl 0) (by omega)).mono ?_
  rintro e w3 ⟨rfl, hs, hg⟩
  have HS := Aside0.mk hs
  have HB4 := Aside0.mk (below_then HB2.out HB2.out.size (below_grown_new HB3.out hg))
  have HANS : Aside0 (Answers dataA ([] ++ [p]) [2147221504]) := ⟨rfl, fun j h h' => by
    have : j = 0 := by simp at h'; exact h'
    subst this
    exact ⟨HPO.out, K, HK.out⟩⟩
  clear hs hg HB3 HB2 HR2 hL
  go_wp2_with fail
  refine (srun_calls w3 w2.heap.size ([] ++ [p]) _ dataA [2147221504] 2000 2147221504 HS.out HANS.out (by simp) mostA).mono ?_
  rintro e w4 ⟨⟨n, rfl, hn⟩, hb⟩
  obtain rfl := hn rfl
  have HB5 := Aside0.mk (below_then HB4.out HB4.out.size hb)
  clear hb hn
  go_wp2_with fail
  go_ret
  exact ⟨rfl, HB5.out⟩
end Go.Proofs.Ytidnojkijfinaaa.Fns
