/- The law SumOne: its walk. -/
import Derived.Test.YtoffjdomigofhaaSumTwo
import Derived.Deep.DrawnRows
import Derived.Outline
import Derived.Deep.RegionLaw
namespace Go.Proofs.Ytoffjdomigofhaa.Fns
open Go.RowKit Go.Proofs.YtoffjdomigofhaaW.PrintWords Go.Proofs.YtoffjdomigofhaaW.PrintLast Go.Proofs.YtoffjdomigofhaaW.PrintMore Go.ChangeShapes Go.WideShapes
set_option linter.unusedVariables false
set_option linter.unusedSimpArgs false
attribute [local go_sem ↓] Go.wp_at_zero Go.wp_at_succ

section
variable {P : Program} {ops : Array Oper} {o : Oper} {a : Act} {Q : Exit → Act → World → Prop} {Kc : Act → World → Prop}
/-- append(v, ys...) of bytes, as one step of a region that draws its order. -/
theorem app_step {w0 W : World} (B : Nat) (hg : o.guard = none) (s x : Operand) (t e : TypeId)
    (ho : o.op = .call { callee := .builtin .append, args := #[s, x], argTypes := #[t, t] })
    (ht : P.underlying t = some (.slice e)) (hinfo : (P.info? e).map (fun i => (i.zero, i.size, i.bytes)) = some (some (.int .u8 0), 1, 1))
    (v : Value) (xs ys : List Int) (A : Option Addr) (m c : Nat) (hs : a.eval s = v) (hx : a.eval x = .slice A m c)
    (HO : Kd.R (Kd.int .u8) e W B (fun _ => True) v xs) (HC : Kd.C (Kd.int .u8) W A m ys) (HB : Below B w0 W) (hB : B ≤ W.heap.size) (hl : xs.length + m ≤ 140737488355328)
    (h : ∀ v1 w1, Kd.R (Kd.int .u8) e w1 B (fun _ => True) v1 (xs ++ ys) → Below B w0 w1 → W.grownBy w1 v.ownBlock → (v1.ownBlock = v.ownBlock ∨ ∃ b, v1.ownBlock = some b ∧ W.heap.size ≤ b) → Kc (a.put o.dst v1) w1) (E : Prop) :
    if Region.wanted o (yielded ops a.tmps) = true then Oper.wp P o a W Kc Q else E := by
  have hw : Region.wanted o (yielded ops a.tmps) = true := by simp [Region.wanted, hg]
  have := Kd.R_append_rows_step (P := P) (ops := ops) (Q := Q) (Kc := Kc) (Kd.int .u8) (Rr := (Kd.int .u8).K W) (w0 := w0) B hw s x t e (.int .u8 0) 1 ho ht hinfo rfl (by decide) (by decide) v xs ys A m c (fun _ => True) (fun _ => False) hs hx HO HC (fun x cs hk => hk) (fun _ hk => hk.elim) (fun _ _ => trivial) HB hB (by omega) h
  rw [if_pos hw] at this ⊢
  exact this
end

theorem lit_none (W : World) (B N : Nat) (hN : W.heap.size = N) (hB : B ≤ N) : Kd.R (Kd.int .u8) 5 (W.alloc (.cells #[] 5)) B (fun _ => True) (.slice (some ⟨N, 0, none⟩) 0 0) [] := by
  subst hN
  refine Kd.R_of_own ?_ (fun _ _ => trivial)
  have := World.ownsRow_lit (base := B) (e := 5) (size := 1) W #[] 0 hB (by simp) (by simp)
  simpa [encs] using this
theorem lit_one (W : World) (N : Nat) (x : Int) (hN : W.heap.size = N) : Kd.C (Kd.int .u8) (W.alloc (.cells #[.int .u8 x] 5)) (some ⟨N, 0, none⟩) 1 [x] := by
  subst hN
  refine Kd.C_of_reads (d := (0 : Int)) (h1 := fun _ => rfl) ⟨rfl, by simp, fun _ => ⟨_, rfl, fun j hj => ?_⟩⟩
  obtain rfl : j = 0 := by omega
  rw [Go.Proofs.YtoffjdomigofhaaW.PrintWords.add_plain]
  simp
theorem keepS {w1 W : World} {a : Addr} {v : Value} (hc : w1.cell? a = some v) (h : Below w1.heap.size w1 W) : Aside0 (Below w1.heap.size w1 W) ∧ W.cell? a = some v := ⟨⟨h⟩, pw_cell_below h hc⟩
theorem C_far {W W' : World} {row : Option Nat} {N n : Nat} {xs : List Int} (h : Kd.C (Kd.int .u8) W (some ⟨N, 0, none⟩) n xs) (hg : W.grownBy W' row) (hN : N < W.heap.size) (hne : some N ≠ row) : Kd.C (Kd.int .u8) W' (some ⟨N, 0, none⟩) n xs := by
  have h' := Kd.reads_of_C (d := (0 : Int)) (h1 := fun _ => rfl) h
  refine Kd.C_of_reads (d := (0 : Int)) (h1 := fun _ => rfl) ⟨h'.1, h'.2.1, fun hn => ?_⟩
  obtain ⟨ad, e, hc⟩ := h'.2.2 hn
  cases e
  refine ⟨_, rfl, fun j hj => ?_⟩
  rw [← hc j hj, Go.Proofs.YtoffjdomigofhaaW.PrintWords.add_plain]
  exact hg.cell_far _ hN hne

set_option maxHeartbeats 8000000 in
set_option maxRecDepth 100000 in
theorem one_main (A0 : Option Addr) (c0 : Nat) (l0 : List Int) (A1 : Option Addr) (c1 : Nat) (l1 : List Int) (x y : Int) (w : World)
    (hr0 : Kd.C (Kd.int .u8) w A0 l0.length l0) (hc0 : l0.length ≤ c0) (hr1 : Kd.C (Kd.int .u8) w A1 l1.length l1) (hc1 : l1.length ≤ c1)
    (b0 : SumMath.Bytes l0) (b1 : SumMath.Bytes l1) (n0 : l0.length ≤ 20000) (n1 : l1.length ≤ 20000)
    (hx : 0 ≤ x ∧ x ≤ 255) (hy : 0 ≤ y ∧ y ≤ 255) (hne : x ≠ y) :
    Calls Try.prog 6 #[.slice A0 l0.length c0, .slice A1 l1.length c1, .agg #[.int .u8 x, .int .u8 y]] w fun e w' => e = .returned (.bool true) ∧ Below w.heap.size w w' := by
  have HR0 := Aside0.mk hr0
  have HR1 := Aside0.mk hr1
  have HC0 := Aside0.mk hc0
  have HC1 := Aside0.mk hc1
  have HX := Aside0.mk (show SumMath.Bytes l0 ∧ SumMath.Bytes l1 ∧ (0 ≤ x ∧ x ≤ 255) ∧ (0 ≤ y ∧ y ≤ 255) from ⟨b0, b1, hx, hy⟩)
  clear hr0 hr1 hc0 hc1 b0 b1 hx hy
  have HA := Aside0.mk (Pure.awake_is 10 (by omega))
  have d0 : decide ((20000 : Int) < (l0.length : Int)) = false := decide_eq_false (by omega)
  have d1 : decide ((20000 : Int) < (l1.length : Int)) = false := decide_eq_false (by omega)
  have d2 : decide (20000 < l0.length) = false := decide_eq_false (by omega)
  have d3 : decide (20000 < l1.length) = false := decide_eq_false (by omega)
  have d4 : (x == y) = false := by simpa using hne
  clear hne
  go_enter Try.func6, Try.ntmps6
  go_wp2_with fail
  refine (fairleadlaw01_awake.calls 10 true _ HA.out).mono ?_
  rintro e w1 ⟨rfl, hb⟩
  have hz : w.heap.size < w1.heap.size := by have := hb.size; simp at this; omega
  have c0 : w1.cell? ⟨w.heap.size, 0, none⟩ = some (.int .u8 x) := by rw [hb.cell (p := ⟨w.heap.size, 0, none⟩) (by simp)]; simp
  have c1 : w1.cell? ⟨w.heap.size, 1, none⟩ = some (.int .u8 y) := by rw [hb.cell (p := ⟨w.heap.size, 1, none⟩) (by simp)]; simp
  have HB := Aside0.mk (below_then ((Below.refl w.heap.size w).alloc (Nat.le_refl _) (.cells #[.int .u8 x, .int .u8 y] 30)) (by simp) hb)
  clear hb
  have HBw := Aside0.mk (Below.refl w1.heap.size w1)
  go_upto_region 4 with (fail)
  (try simp only [Act.put, List.setIfInBounds_toArray, List.set_cons_zero, List.set_cons_succ])
  go_cut [8] (fun v8 wc => Aside0 (Kd.R (Kd.int .u8) 5 wc w1.heap.size (fun _ => True) v8 (l0 ++ [x] ++ l1)) ∧ Aside0 (Below w1.heap.size w1 wc))
  case first =>
    go_region_held3 (fun w' => Aside0 (Below w1.heap.size w1 w') ∧ w'.cell? ⟨w.heap.size, 0, none⟩ = some (.int .u8 x))
      ((apply keepS c0; (repeat (first | with_reducible assumption | exact HBw.out | with_reducible apply below_alloc | with_reducible apply below_drew))))
      (first
        | ((refine app_step (w0 := w1) w1.heap.size (by rfl) (.tmp 27) (.tmp 28) 22 5 (by rfl) Try.underlying22 info5 (.slice (some ⟨_, 0, none⟩) 0 0) [] l0 _ _ _ (by rfl) (by rfl) ?ho ?hc ?hb ?hz ?hl ?_ _; (case hl => simp; omega); (case hb => (repeat (first | with_reducible assumption | exact HBw.out | with_reducible apply below_alloc | with_reducible apply below_drew))); (case hz => simp <;> omega); (case ho => repeat (first | (with_reducible refine lit_none _ _ _ ?_ ?_ <;> (simp; done)) | with_reducible apply Kd.R_drew | with_reducible apply Kd.R_alloc)); (case hc => refine Kd.C_below HR0.out (below_then HB.out (below_size HB.out) ?_); repeat (first | with_reducible exact Below.refl _ _ | with_reducible assumption | with_reducible apply below_alloc | with_reducible apply below_drew)); intro v1 w2 hR hB hg hat; simp only [List.nil_append] at hR; (try (refine (have hC32 : Kd.C (Kd.int .u8) w2 (some ⟨w1.heap.size, 0, none⟩) 1 [x] := C_far (n := 1) (xs := [x]) (N := w1.heap.size) ?_ hg ?_ ?_; ?_); (focus repeat (first | (with_reducible refine lit_one _ _ _ ?_; simp; done) | with_reducible apply Kd.C_drew | with_reducible apply Kd.C_alloc)); (focus (simp <;> omega)); (focus (simp [Value.ownBlock]; done)))); (try (refine (have hC32 : Kd.C (Kd.int .u8) w2 (some ⟨w1.heap.size + 1, 0, none⟩) 1 [x] := C_far (n := 1) (xs := [x]) (N := w1.heap.size + 1) ?_ hg ?_ ?_; ?_); (focus repeat (first | (with_reducible refine lit_one _ _ _ ?_; simp; done) | with_reducible apply Kd.C_drew | with_reducible apply Kd.C_alloc)); (focus (simp <;> omega)); (focus (simp [Value.ownBlock]; done))))))
        | ((refine app_step (w0 := w1) w1.heap.size (by rfl) (.tmp 33) (.tmp 34) 22 5 (by rfl) Try.underlying22 info5 v3 (l0 ++ [x]) l1 _ _ _ (by rfl) (by rfl) ?ho ?hc ?hb ?hz ?hl ?_ _; (case hl => simp <;> omega); (case hb => (repeat (first | with_reducible assumption | exact HBw.out | with_reducible apply below_alloc | with_reducible apply below_drew))); (case hz => have := hB3.size; simp <;> omega); (case ho => repeat (first | with_reducible assumption | with_reducible apply Kd.R_drew | with_reducible apply Kd.R_alloc)); (case hc => refine Kd.C_below HR1.out (below_then HB.out (below_size HB.out) ?_); repeat (first | with_reducible exact Below.refl _ _ | with_reducible assumption | with_reducible apply below_alloc | with_reducible apply below_drew)); clear hR3 hat3 hg3; intro v4 w4 hR4 hB4 hg4 hat4))
        | ((refine app_step (w0 := w1) w1.heap.size (by rfl) (.tmp 29) (.tmp 32) 22 5 (by rfl) Try.underlying22 info5 v1 l0 [x] _ _ _ (by rfl) (by rfl) ?ho ?hc ?hb ?hz ?hl ?_ _; (case hl => omega); (case hb => (repeat (first | with_reducible assumption | exact HBw.out | with_reducible apply below_alloc | with_reducible apply below_drew))); (case hz => have := hB.size; simp <;> omega); (case ho => repeat (first | with_reducible assumption | with_reducible apply Kd.R_drew | with_reducible apply Kd.R_alloc)); (case hc => repeat (first | with_reducible assumption | (with_reducible refine lit_one _ _ _ ?_; simp; done) | with_reducible apply Kd.C_drew | with_reducible apply Kd.C_alloc)); clear hR hat hg; intro v3 w3 hR3 hB3 hg3 hat3)))
    all_goals
      go_wp2
      go_meet
      case rel => exact ⟨⟨by repeat (first | with_reducible assumption | with_reducible apply Kd.R_drew | with_reducible apply Kd.R_alloc)⟩, ⟨by repeat (first | with_reducible assumption | with_reducible apply below_drew | with_reducible apply below_alloc)⟩⟩
  case rest =>
    obtain ⟨HV, HW⟩ := hcut
    have c1' : wc.cell? ⟨w.heap.size, 1, none⟩ = some (.int .u8 y) := pw_cell_below HW.out c1
    have HB2 := Aside0.mk (below_then HB.out (below_size HB.out) HW.out)
    have HBw2 := Aside0.mk (Below.refl wc.heap.size wc)
    clear c0 c1 hz
    go_upto_region 5 with (fail)
    (try simp only [Act.put, List.setIfInBounds_toArray, List.set_cons_zero, List.set_cons_succ])
    go_cut [9] (fun v9 wd => Aside0 (Kd.R (Kd.int .u8) 5 wd wc.heap.size (fun _ => True) v9 (l0 ++ [y] ++ l1)) ∧ Aside0 (Below wc.heap.size wc wd))
    case first =>
      go_region_held3 (fun w' => Aside0 (Below wc.heap.size wc w') ∧ w'.cell? ⟨w.heap.size, 1, none⟩ = some (.int .u8 y))
        ((apply keepS c1'; (repeat (first | with_reducible assumption | exact HBw2.out | with_reducible apply below_alloc | with_reducible apply below_drew))))
        (first
          | ((refine app_step (w0 := wc) wc.heap.size (by rfl) (.tmp 36) (.tmp 37) 22 5 (by rfl) Try.underlying22 info5 (.slice (some ⟨_, 0, none⟩) 0 0) [] l0 _ _ _ (by rfl) (by rfl) ?ho ?hc ?hb ?hz ?hl ?_ _; (case hl => simp; omega); (case hb => (repeat (first | with_reducible assumption | exact HBw2.out | with_reducible apply below_alloc | with_reducible apply below_drew))); (case hz => simp <;> omega); (case ho => repeat (first | (with_reducible refine lit_none _ _ _ ?_ ?_ <;> (simp; done)) | with_reducible apply Kd.R_drew | with_reducible apply Kd.R_alloc)); (case hc => refine Kd.C_below HR0.out (below_then HB2.out (below_size HB2.out) ?_); repeat (first | with_reducible exact Below.refl _ _ | with_reducible assumption | with_reducible apply below_alloc | with_reducible apply below_drew)); intro v1 w2 hR hB hg hat; simp only [List.nil_append] at hR; (try (refine (have hC32 : Kd.C (Kd.int .u8) w2 (some ⟨wc.heap.size, 0, none⟩) 1 [y] := C_far (n := 1) (xs := [y]) (N := wc.heap.size) ?_ hg ?_ ?_; ?_); (focus repeat (first | (with_reducible refine lit_one _ _ _ ?_; simp; done) | with_reducible apply Kd.C_drew | with_reducible apply Kd.C_alloc)); (focus (simp <;> omega)); (focus (simp [Value.ownBlock]; done)))); (try (refine (have hC32 : Kd.C (Kd.int .u8) w2 (some ⟨wc.heap.size + 1, 0, none⟩) 1 [y] := C_far (n := 1) (xs := [y]) (N := wc.heap.size + 1) ?_ hg ?_ ?_; ?_); (focus repeat (first | (with_reducible refine lit_one _ _ _ ?_; simp; done) | with_reducible apply Kd.C_drew | with_reducible apply Kd.C_alloc)); (focus (simp <;> omega)); (focus (simp [Value.ownBlock]; done))))))
          | ((refine app_step (w0 := wc) wc.heap.size (by rfl) (.tmp 42) (.tmp 43) 22 5 (by rfl) Try.underlying22 info5 v3 (l0 ++ [y]) l1 _ _ _ (by rfl) (by rfl) ?ho ?hc ?hb ?hz ?hl ?_ _; (case hl => simp <;> omega); (case hb => (repeat (first | with_reducible assumption | exact HBw2.out | with_reducible apply below_alloc | with_reducible apply below_drew))); (case hz => have := hB3.size; simp <;> omega); (case ho => repeat (first | with_reducible assumption | with_reducible apply Kd.R_drew | with_reducible apply Kd.R_alloc)); (case hc => refine Kd.C_below HR1.out (below_then HB2.out (below_size HB2.out) ?_); repeat (first | with_reducible exact Below.refl _ _ | with_reducible assumption | with_reducible apply below_alloc | with_reducible apply below_drew)); clear hR3 hat3 hg3; intro v4 w4 hR4 hB4 hg4 hat4))
          | ((refine app_step (w0 := wc) wc.heap.size (by rfl) (.tmp 38) (.tmp 41) 22 5 (by rfl) Try.underlying22 info5 v1 l0 [y] _ _ _ (by rfl) (by rfl) ?ho ?hc ?hb ?hz ?hl ?_ _; (case hl => omega); (case hb => (repeat (first | with_reducible assumption | exact HBw2.out | with_reducible apply below_alloc | with_reducible apply below_drew))); (case hz => have := hB.size; simp <;> omega); (case ho => repeat (first | with_reducible assumption | with_reducible apply Kd.R_drew | with_reducible apply Kd.R_alloc)); (case hc => repeat (first | with_reducible assumption | (with_reducible refine lit_one _ _ _ ?_; simp; done) | with_reducible apply Kd.C_drew | with_reducible apply Kd.C_alloc)); clear hR hat hg; intro v3 w3 hR3 hB3 hg3 hat3)))
      all_goals
        go_wp2
        go_meet
        case rel => exact ⟨⟨by repeat (first | with_reducible assumption | with_reducible apply Kd.R_drew | with_reducible apply Kd.R_alloc)⟩, ⟨by repeat (first | with_reducible assumption | with_reducible apply below_drew | with_reducible apply below_alloc)⟩⟩
    case rest =>
      obtain ⟨HV9, HW9⟩ := hcut
      have HB3 := Aside0.mk (below_then HB2.out (below_size HB2.out) HW9.out)
      have HV8 := Aside0.mk (Kd.R_below HV.out HW9.out)
      clear HV HB HB2 HBw HBw2 HW HW9 c1'
      have g8 := Pure.of_is (l0 ++ [x] ++ l1) (Pure.bytes_append (Pure.bytes_append HX.out.1 (fun z hz => by simp at hz; subst hz; exact HX.out.2.2.1)) HX.out.2.1) (by simp; omega) 50000 (by simp; omega)
      have g9 := Pure.of_is (l0 ++ [y] ++ l1) (Pure.bytes_append (Pure.bytes_append HX.out.1 (fun z hz => by simp at hz; subst hz; exact HX.out.2.2.2)) HX.out.2.1) (by simp; omega) 50000 (by simp; omega)
      have hd : SumMath.G 1 (l0 ++ [x] ++ l1) ≠ SumMath.G 1 (l0 ++ [y] ++ l1) := by simpa using SumMath.G_one 1 l0 l1 x y HX.out.2.2.1 HX.out.2.2.2 (by simpa using d4)
      generalize SumMath.G 1 (l0 ++ [x] ++ l1) = r8 at g8 hd
      generalize SumMath.G 1 (l0 ++ [y] ++ l1) = r9 at g9 hd
      obtain ⟨L8, hL8⟩ : ∃ L, L = l0 ++ [x] ++ l1 := ⟨_, rfl⟩
      obtain ⟨L9, hL9⟩ : ∃ L, L = l0 ++ [y] ++ l1 := ⟨_, rfl⟩
      rw [← hL8] at g8 HV8
      rw [← hL9] at g9 HV9
      have G8 := Aside0.mk g8
      have G9 := Aside0.mk g9
      have hd1 : (r8 == r9) = false := by simpa using hd
      have hd2 : (r8 != r9) = true := by simpa using hd
      clear hL8 hL9 g8 g9 hd d0 d1 d2 d3 d4 n0 n1
      obtain ⟨A8, c8, e8⟩ := Kd.R_slice HV8.out
      obtain ⟨A9, c9, e9⟩ := Kd.R_slice HV9.out
      subst e8 e9
      go_wp2_with fail
      refine (sum_Of.calls 50000 _ _ L8 r8 _ ?s1 ?s2 G8.out).mono ?_
      case s1 => exact (Kd.R_reads' HV8.out).2.2
      case s2 => exact (Kd.R_reads' HV8.out).2.1
      rintro e w5 ⟨rfl, ⟨nd, rfl⟩⟩
      go_wp2_with fail
      refine (sum_Of.calls 50000 _ _ L9 r9 _ ?s1 ?s2 G9.out).mono ?_
      case s1 => exact Kd.C_drewN (Kd.R_reads' HV9.out).2.2 _
      case s2 => exact (Kd.R_reads' HV9.out).2.1
      rintro e w6 ⟨rfl, ⟨nd', rfl⟩⟩
      go_wp2_with fail
      go_ret
      exact ⟨by first | rfl | simp [hd2], by repeat (first | exact HB3.out | apply pw_below_drewN | apply below_drew)⟩

set_option maxHeartbeats 8000000 in
set_option maxRecDepth 100000 in
/-- the ways that end before the texts are made -/
theorem one_early (A0 : Option Addr) (c0 m0 : Nat) (A1 : Option Addr) (c1 m1 : Nat) (x y : Int) (w : World) (q0 : m0 ≤ maxLen) (q1 : m1 ≤ maxLen) (h : 20000 < m0 ∨ 20000 < m1 ∨ x = y) :
    Calls Try.prog 6 #[.slice A0 m0 c0, .slice A1 m1 c1, .agg #[.int .u8 x, .int .u8 y]] w fun e w' => e = .returned (.bool true) ∧ Below w.heap.size w w' := by
  have HA := Aside0.mk (Pure.awake_is 10 (by omega))
  unfold maxLen at q0 q1
  by_cases h0 : 20000 < m0
  all_goals
    by_cases h1 : 20000 < m1
    all_goals
      have HX := Aside0.mk (show 20000 < m0 ∨ 20000 < m1 ∨ (x == y) = true from by simpa using h)
      go_enter Try.func6, Try.ntmps6
      go_wp2_with fail
      refine (fairleadlaw01_awake.calls 10 true _ HA.out).mono ?_
      rintro e w1 ⟨rfl, hb⟩
      have hz : w.heap.size < w1.heap.size := by have := hb.size; simp at this; omega
      have c0 : w1.cell? ⟨w.heap.size, 0, none⟩ = some (.int .u8 x) := by rw [hb.cell (p := ⟨w.heap.size, 0, none⟩) (by simp)]; simp
      have c1 : w1.cell? ⟨w.heap.size, 1, none⟩ = some (.int .u8 y) := by rw [hb.cell (p := ⟨w.heap.size, 1, none⟩) (by simp)]; simp
      have HB := Aside0.mk (below_then ((Below.refl w.heap.size w).alloc (Nat.le_refl _) (.cells #[.int .u8 x, .int .u8 y] 30)) (by simp) hb)
      clear hb
      have hxy : 20000 < m0 ∨ 20000 < m1 ∨ (x == y) = true := HX.out
      first
        | (have e1 : (x == y) = true := by simpa [h0, h1] using hxy
           clear hxy h HX
           go_wp2_with fail
           go_ret
           exact ⟨by first | rfl | simp, by repeat (first | exact HB.out | apply pw_below_drewN | apply below_drew)⟩)
        | (clear hxy h HX
           go_wp2_with fail
           go_ret
           exact ⟨by first | rfl | simp, by repeat (first | exact HB.out | apply pw_below_drewN | apply below_drew)⟩)

theorem one_any (a0 : Option Addr) (len0 cap0 : Nat) (z0 : List Int) (a1 : Option Addr) (len1 cap1 : Nat) (z1 : List Int) (x y : Int) (w : World)
    (w0 : (a0 = none ∧ len0 = 0 ∧ cap0 = 0 ∧ z0 = []) ∨ ∃ x, a0 = some x ∧ len0 ≤ cap0 ∧ cap0 ≤ maxLen ∧ z0.length = cap0 ∧ (∀ i, i < z0.length → w.cell? (x.add i) = some (.int .u8 (z0.getD i 0))) ∧ ∀ n ∈ z0, (Lit.int .u8 n).wf = true)
    (w1 : (a1 = none ∧ len1 = 0 ∧ cap1 = 0 ∧ z1 = []) ∨ ∃ x, a1 = some x ∧ len1 ≤ cap1 ∧ cap1 ≤ maxLen ∧ z1.length = cap1 ∧ (∀ i, i < z1.length → w.cell? (x.add i) = some (.int .u8 (z1.getD i 0))) ∧ ∀ n ∈ z1, (Lit.int .u8 n).wf = true)
    (hx : 0 ≤ x ∧ x ≤ 255) (hy : 0 ≤ y ∧ y ≤ 255) :
    Calls Try.prog 6 #[.slice a0 len0 cap0, .slice a1 len1 cap1, .agg #[.int .u8 x, .int .u8 y]] w fun e w' => e = .returned (.bool true) ∧ Below w.heap.size w w' := by
  obtain ⟨l0, rfl, hr0, hm0, hw0, hc0⟩ := ReadsInt.ofRowC w0
  obtain ⟨l1, rfl, hr1, hm1, hw1, hc1⟩ := ReadsInt.ofRowC w1
  by_cases h : 20000 < l0.length ∨ 20000 < l1.length ∨ x = y
  · exact one_early a0 cap0 l0.length a1 cap1 l1.length x y w hm0 hm1 h
  · exact one_main a0 cap0 l0 a1 cap1 l1 x y w (Kd.C_of_reads (d := (0 : Int)) (h1 := fun _ => rfl) hr0) hc0 (Kd.C_of_reads (d := (0 : Int)) (h1 := fun _ => rfl) hr1) hc1
      (Pure.bytes_of hw0) (Pure.bytes_of hw1) (by omega) (by omega) hx hy (by omega)
end Go.Proofs.Ytoffjdomigofhaa.Fns
