/- The document's Parts: walked. -/
import Derived.Test.YtioccjeiheejjaaTrPure
namespace Go.Proofs.Ytioccjeiheejjaa.Tree
open Go.RowKit Go.Proofs.YtioccjeiheejjaaW.PrintWords Go.Proofs.YtioccjeiheejjaaW.PrintLast Go.Proofs.YtioccjeiheejjaaW.PrintMore Go.Proofs.Ytioccjeiheejjaa.Fns
set_option linter.unusedVariables false
set_option linter.unusedSimpArgs false

/-- two ints in two cells. -/
def pr : Kd (Int × Int) where
  sz := 2
  E := []
  K := fun _ x cs => cs = [.int .i64 x.1, .int .i64 x.2]
  M := fun _ _ _ x cs => cs = [.int .i64 x.1, .int .i64 x.2]
  K_len := fun h => by rw [h]; rfl
  K_one := fun h u hu => by
    rw [h] at hu
    simp only [List.mem_cons, List.not_mem_nil, or_false] at hu
    rcases hu with rfl | rfl <;> rfl
  K_below := fun _ h => h
  K_of_M := fun h => h
  M_mono := fun _ h => h
  M_bound := fun h => h
  M_move := fun _ h => h
  M_lower := fun _ h => h
theorem info35 : (Try.prog.info? 35).map (fun i => (i.zero, i.size, i.bytes)) = some (some (.agg #[.int .i64 0, .int .i64 0]), 2, 16) := by kernel_rfl

set_option maxHeartbeats 4000000 in
set_option maxRecDepth 100000 in
theorem parts_none (f t : Int) (h : t ≤ f) (w : World) : Calls Try.prog 13 #[.int .i64 f, .int .i64 t] w fun e w' => e = .returned (.slice none 0 0) ∧ Below w.heap.size w w' := by
  have d0 : decide (t ≤ f) = true := decide_eq_true h
  go_enter Try.func13, Try.ntmps13
  go_wp2
  go_ret
  exact ⟨rfl, Below.refl _ _⟩
set_option maxHeartbeats 4000000 in
set_option maxRecDepth 100000 in
theorem parts_calls : ∀ (d f t : Nat), t - f ≤ d → f < t → t ≤ 10000 → ∀ (w : World), Calls Try.prog 13 #[.int .i64 (f : Int), .int .i64 (t : Int)] w fun e w' => ∃ v, e = .returned v ∧ Kd.R pr 35 w' w.heap.size (fun _ => True) v (parts d f t) ∧ Below w.heap.size w w' := by
  intro d
  induction d with
  | zero => intro f t h1 h2; omega
  | succ d ih =>
    intro f t h1 h2 h3 w
    have d0 : decide ((t : Int) ≤ (f : Int)) = false := decide_eq_false (by omega)
    have d1 : decide (t ≤ f) = false := decide_eq_false (by omega)
    by_cases h : t - f = 1
    · have e : parts (d + 1) f t = [((f : Int), (t : Int))] := by rw [parts, if_neg (by omega), if_pos h]
      rw [e]
      have t1 : (((t : Int) - (f : Int)) == 1) = true := by have : (t : Int) - (f : Int) = 1 := by omega
                                                            rw [this]; rfl
      go_enter Try.func13, Try.ntmps13
      go_wp2_with (first
        | ((with_reducible refine gate_dst (N := 13) rfl ?_); refine Kd.R_lit pr (w0 := w) (W := w) w.heap.size 35 ?hg (N := 13) ?hd (xs := [((f : Int), (t : Int))]) (inner := [.int .i64 (f : Int), .int .i64 (t : Int)]) (ok := fun _ => True) (okp := fun _ => True) ?hr ?hp (fun _ hk => hk) trivial (Below.refl _ _) (Nat.le_refl _) (by simp) ?_; (case hd => rfl); (case hg => rfl); (case hr => first | (go_simp; done) | (go_simp; rfl)); (case hp => exact Reps.c2 rfl (Reps.none _ _)); intro v2 w2 ho2 hb2 hg2 hn2; have HO2 := Aside0.mk ho2; have HB2 := Aside0.mk hb2; clear ho2 hb2 hg2 hn2))
      go_ret
      exact ⟨_, rfl, HO2.out, HB2.out⟩
    · have hm1 : f + (t - f) / 2 < t := by omega
      have hm2 : f < f + (t - f) / 2 := by omega
      have em := mid_is f t (by omega) (by omega)
      obtain ⟨m, hm⟩ : ∃ m, f + (t - f) / 2 = m := ⟨_, rfl⟩
      have e : parts (d + 1) f t = [((f : Int), (t : Int))] ++ parts d f m ++ parts d m t := by rw [parts, if_neg (by omega), if_neg h, hm]; rfl
      rw [hm] at hm1 hm2 em
      rw [e]
      have t1 : (((t : Int) - (f : Int)) == 1) = false := by
        have : ¬ (t : Int) - (f : Int) = 1 := by omega
        simpa using this
      have p1 := parts_le d f m
      have p2 := parts_le d m t
      have HI1 := Aside0.mk (ih f m (by omega) hm2 (by omega))
      have HI2 := Aside0.mk (ih m t (by omega) hm1 h3)
      have HP := Aside0.mk (And.intro p1 p2)
      have HEM := Aside0.mk (show (f : Int) + ((t : Int) - (f : Int)) / 2 = (m : Int) by omega)
      clear ih p1 p2 e hm em
      generalize parts d f m = ps1 at HI1 HP ⊢
      generalize parts d m t = ps2 at HI2 HP ⊢
      go_enter Try.func13, Try.ntmps13
      go_wp2_with (first
        | ((with_reducible refine gate_dst (N := 13) rfl ?_); refine Kd.R_lit pr (w0 := w) (W := w) w.heap.size 35 ?hg (N := 13) ?hd (xs := [((f : Int), (t : Int))]) (inner := [.int .i64 (f : Int), .int .i64 (t : Int)]) (ok := fun _ => True) (okp := fun _ => True) ?hr ?hp (fun _ hk => hk) trivial (Below.refl _ _) (Nat.le_refl _) (by simp) ?_; (case hd => rfl); (case hg => rfl); (case hr => first | (go_simp; done) | (go_simp; rfl)); (case hp => exact Reps.c2 rfl (Reps.none _ _)); intro v2 w2 ho2 hb2 hg2 hn2; have HO2 := Aside0.mk ho2; have HB2 := Aside0.mk hb2; clear ho2 hb2 hg2 hn2))
      rw [HEM.out]
      refine (HI1.out w2).mono ?_
      rintro e w3 ⟨v3, rfl, ho3, hb3⟩
      obtain ⟨A3, c3, rfl⟩ := Kd.R_slice ho3
      have HO2' := Aside0.mk (Kd.R_below HO2.out hb3)
      have HC3 := Aside0.mk (Kd.R_reads' ho3)
      have HB3 := Aside0.mk (below_then HB2.out HB2.out.size hb3)
      clear ho3 hb3 HO2
      go_wp2_with (first
        | ((with_reducible refine gate_dst (N := 29) rfl ?_); refine Kd.R_append_rows pr (Rr := pr.K w3) (w0 := w) (W := w3) w.heap.size rfl (.tmp 25) (.tmp 28) 30 35 (.agg #[.int .i64 0, .int .i64 0]) 16 rfl Try.underlying30 info35 rfl (by decide) (by decide) v2 [((f : Int), (t : Int))] ps1 A3 ps1.length c3 (fun _ => True) (fun _ => False) rfl rfl HO2'.out HC3.out.2.2 (fun _ _ h => h) (fun _ h => h.elim) (fun _ _ => trivial) HB3.out HB3.out.size ?len ?_; (case len => have := HP.out; simp; omega); intro v4 w4 ho4 hb4 hg4 hat4; have HO4 := Aside0.mk ho4; have HB4 := Aside0.mk hb4; clear ho4 hb4 hg4 hat4))
      refine (HI2.out w4).mono ?_
      rintro e w5 ⟨v5, rfl, ho5, hb5⟩
      obtain ⟨A5, c5, rfl⟩ := Kd.R_slice ho5
      have HO5 := Aside0.mk (Kd.R_below HO4.out hb5)
      have HC5 := Aside0.mk (Kd.R_reads' ho5)
      have HB5 := Aside0.mk (below_then HB4.out HB4.out.size hb5)
      clear ho5 hb5 HO4 HB4
      go_wp2_with (first
        | ((with_reducible refine gate_dst (N := 34) rfl ?_); refine Kd.R_append_rows pr (Rr := pr.K w5) (w0 := w) (W := w5) w.heap.size rfl (.tmp 30) (.tmp 33) 30 35 (.agg #[.int .i64 0, .int .i64 0]) 16 rfl Try.underlying30 info35 rfl (by decide) (by decide) v4 ([((f : Int), (t : Int))] ++ ps1) ps2 A5 ps2.length c5 (fun _ => True) (fun _ => False) rfl rfl HO5.out HC5.out.2.2 (fun _ _ h => h) (fun _ h => h.elim) (fun _ _ => trivial) HB5.out HB5.out.size ?len ?_; (case len => have := HP.out; simp; omega); intro v6 w6 ho4 hb4 hg4 hat4; have HO4 := Aside0.mk ho4; have HB4 := Aside0.mk hb4; clear ho4 hb4 hg4 hat4))
      go_ret
      exact ⟨_, rfl, HO4.out, HB4.out⟩
end Go.Proofs.Ytioccjeiheejjaa.Tree
