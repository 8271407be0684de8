/- Part of the proof of TopVerdictSaid. -/
import Derived.Test.YtidnojkijfinaaaQFns4
import Derived.Test.YtidnojkijfinaaaQTpHolds
namespace Go.Proofs.Ytidnojkijfinaaa.Fns
open Go.RowKit Go.Proofs.YtidnojkijfinaaaW.PrintWords Go.Proofs.YtidnojkijfinaaaW.PrintLast Go.Proofs.YtidnojkijfinaaaW.PrintMore
attribute [local go_sem] max2_int min2_int max_two min_two max_three min_three max_four min_four
set_option linter.unusedVariables false
set_option linter.unusedSimpArgs false
theorem rf35 {a : Act} {W : World} {R : Ending → World → Prop} {g : Nat} {x y : Int} (hp : a.tmps.getD 2 undef = .pointer (some ⟨g, 0, none⟩)) (hd : a.defers = []) (hb : W.heap[g]? = some (a35 x y)) (h : R (.returned (.agg #[.int .i64 x, .int .i64 y])) W) : bodyPost Try.prog Try.f31 R .ret a W :=
  bodyPost_ret (results_cell_row (P := Try.prog) rfl a.tmps W g 35 #[.int .i64 x, .int .i64 y] (0, 0) _ hp hb Try.underlying35 rfl (info35 x y)) hd h
set_option maxHeartbeats 8000000 in
set_option maxRecDepth 100000 in
theorem act_Of.calls (k : Nat) (a0 r1 r2 : Int) (w : World) (h : act_Of.f k a0 = some (r1, r2)) :
    Calls Try.prog 31 #[.int .u32 a0] w fun e w' => e = .returned (.agg #[.int .i64 r1, .int .i64 r2]) ∧ Below w.heap.size w w' := by
  have HH := Aside0.mk (show act_Of.l0 k a0 1 = some (r1, r2) from h)
  clear h
  have hu35 := Try.underlying35
  go_enter Try.func31, Try.ntmps31
  go_wp2_with fail
  go_loopw [3] (fun v3 wr => ∃ (n : Int) (K : Nat), v3 = .int .i64 n ∧ 1 ≤ n ∧ n ≤ 9 ∧ Aside0 (act_Of.l0 K a0 n = some (r1, r2)) ∧ Aside0 (wr.heap[w.heap.size]? = some (a35 0 0)) ∧ Aside0 (Below w.heap.size w wr)) (fun v3 _ => 9 - (intOf v3).toNat)
  case atStart => exact ⟨1, k, rfl, by omega, by omega, HH, ⟨blk_new w _⟩, ⟨below_alloc (Below.refl _ _) _⟩⟩
  case round =>
    clear HH
    obtain ⟨n, K, rfl, h1, h9, HH, HK, HB⟩ := hrel
    have hh := HH.out
    have hglt := blk_lt HK.out
    obtain ⟨K', rfl⟩ : ∃ m, K = m + 1 := by
      cases K with
      | zero => cases hh
      | succ K => exact ⟨K, rfl⟩
    rw [act_Of.l0] at hh
    by_cases h8 : n ≤ 8
    · rw [if_pos h8] at hh
      obtain ⟨t, ht, hh⟩ := Option.bind_eq_some_iff.1 hh
      try simp only at hh
      have HT := Aside0.mk ht
      have HN := Aside0.mk (And.intro h1 h8)
      have e1 : decide (n ≤ 8) = true := decide_eq_true h8
      clear ht h1 h8 h9
      by_cases ha : t = bits .andNot .u32 a0 65535
      · rw [if_pos ha] at hh
        obtain ⟨b, hb, hh⟩ := Option.bind_eq_some_iff.1 hh
        try simp only at hh
        have HBR := Aside0.mk hb
        have e2 : (t != bits .andNot .u32 a0 65535) = false := by simpa using ha
        clear hb ha
        have hk0 := HK.out
        go_wp2_with fail
        refine (act_number.calls n t _ HT.out).mono ?_
        rintro e w1 ⟨rfl, hb⟩
        have HB1 := Aside0.mk (below_then HB.out HB.out.size hb)
        have HK1 := Aside0.mk (blk_below HK.out hb)
        clear hb HB HK hk0
        go_wp2_with fail
        refine (act_bears.calls n b _ HBR.out).mono ?_
        rintro e w2 ⟨rfl, hdr⟩
        have hd := hdr.below
        have HK2 := Aside0.mk (blk_below (blk_alloc HK1.out (a35 n 0)) hd)
        have HB2 := Aside0.mk (below_then (below_alloc HB1.out (a35 n 0)) (by have := HB1.out.size; simp; omega) hd)
        have HM2 := Aside0.mk (blk_below (blk_new w1 (a35 n 0)) hd)
        have HNE := Aside0.mk (show w.heap.size ≠ w1.heap.size by have := blk_lt HK1.out; omega)
        have HLE := Aside0.mk (show w.heap.size ≤ w1.heap.size by have := HB1.out.size; omega)
        clear hd hdr
        generalize w1.heap.size = g at HM2 HNE HLE ⊢
        have z0 : w2.cell? ⟨w.heap.size, 0, none⟩ = some (.int .i64 0) := (blk_cell HK2.out 0).trans rfl
        have z1 : w2.cell? ⟨w.heap.size, 1, none⟩ = some (.int .i64 0) := (blk_cell HK2.out 1).trans rfl
        have y0 : w2.cell? ⟨g, 0, none⟩ = some (.int .i64 n) := (blk_cell HM2.out 0).trans rfl
        have y1 : w2.cell? ⟨g, 1, none⟩ = some (.int .i64 0) := (blk_cell HM2.out 1).trans rfl
        have fz0 := blk_frozen HK2.out 0
        have fz1 := blk_frozen HK2.out 1
        have fy1 := blk_frozen HM2.out 1
        have hne1 : ¬ (w.heap.size = g) := HNE.out
        have hne2 : ¬ (g = w.heap.size) := fun h => HNE.out h.symm
        clear HB1 HK1
        cases b with
        | true =>
          rw [if_pos rfl] at hh
          cases hh
          go_wp2_with fail
          exact rf35 rfl rfl (blk_put (blk_put (blk_far HK2.out HNE.out _) 0 _ rfl) 1 _ rfl) ⟨rfl, ((HB2.out.setCell HLE.out _).setCell (Nat.le_refl _) _).setCell (Nat.le_refl _) _⟩
        | false =>
          rw [if_neg (by simp)] at hh
          cases hh
          go_wp2_with fail
          exact rf35 rfl rfl (blk_put (blk_put HK2.out 0 _ rfl) 1 _ rfl) ⟨rfl, (HB2.out.setCell (Nat.le_refl _) _).setCell (Nat.le_refl _) _⟩
      · rw [if_neg ha] at hh
        have HA := Aside0.mk hh
        have e2 : (t != bits .andNot .u32 a0 65535) = true := by simpa using ha
        have HWR := Aside0.mk (show wrap64 (n + 1) = n + 1 from IntWalk.wrap64_in _ (by have := HN.out; omega))
        clear ha hh
        go_wp2_with fail
        refine (act_number.calls n t _ HT.out).mono ?_
        rintro e w1 ⟨rfl, hb⟩
        have HB1 := Aside0.mk (below_then HB.out HB.out.size hb)
        have HK1 := Aside0.mk (blk_below HK.out hb)
        clear hb HB HK
        have ha := HA.out
        rw [HWR.out] at ha
        have HA2 := Aside0.mk ha
        clear ha HA
        go_wp2_with fail
        rw [HWR.out]
        refine ⟨⟨n + 1, K', rfl, by have := HN.out; omega, by have := HN.out; omega, HA2, HK1, HB1⟩, ?_⟩
        have := HN.out
        simp only [intOf]
        omega
    · rw [if_neg h8] at hh
      cases hh
      have e1 : decide (n ≤ 8) = false := decide_eq_false h8
      have z0 : wr.cell? ⟨w.heap.size, 0, none⟩ = some (.int .i64 0) := (blk_cell HK.out 0).trans rfl
      have z1 : wr.cell? ⟨w.heap.size, 1, none⟩ = some (.int .i64 0) := (blk_cell HK.out 1).trans rfl
      have fz0 := blk_frozen HK.out 0
      have fz1 := blk_frozen HK.out 1
      clear h8 h1 h9
      go_wp2_with fail
      exact rf35 rfl rfl (blk_put (blk_put HK.out 0 _ rfl) 1 _ rfl) ⟨rfl, (HB.out.setCell (Nat.le_refl _) _).setCell (Nat.le_refl _) _⟩
theorem run_field35 (x y : Int) (W : World) : (Instr.field 35 (.agg #[.int .i64 x, .int .i64 y]) 0).run Try.prog W = .ok (.int .i64 x) W := by
  have h : (Try.prog.info? 3).map (·.size) = some 1 := by kernel_rfl
  cases hq : Try.prog.info? 3 with
  | none => rw [hq] at h; cases h
  | some i =>
    rw [hq] at h
    have hz : i.size = 1 := by simpa using h
    simp [Instr.field, run_underlying Try.underlying35, part, isAgg, run_underlying Try.underlying3, sizeOf, typeInfo, hq, hz, asAgg]
set_option maxHeartbeats 8000000 in
set_option maxRecDepth 100000 in
theorem act_Most.calls (K : Nat) (A : Option Addr) (c : Nat) (l : List Int) (m : Int) (w : World) (hr : Kd.C (Kd.int .u32) w A l.length l) (h : act_Most.f K l = some m) :
    Calls Try.prog 12 #[.slice A l.length c] w fun e w' => e = .returned (.int .u32 m) ∧ Below w.heap.size w w' := by
  have HM := Aside0.mk (Kd.C_max hr)
  have HR := Aside0.mk hr
  unfold act_Most.f at h
  obtain ⟨x, hx, h⟩ := Option.bind_eq_some_iff.1 h
  have HX := Aside0.mk hx
  have HH := Aside0.mk (show act_Most.l0 K x l (l.length : Int) ((0 : Nat) : Int) = some m from h)
  clear hr h hx
  have hfd := run_field35
  go_enter Try.func12, Try.ntmps12
  go_wp2_with fail
  refine (act_number.calls 8 x _ HX.out).mono ?_
  rintro e w1 ⟨rfl, hb⟩
  have HB := Aside0.mk hb
  clear hb HX
  go_wp2_with fail
  go_loopw [3, 9] (fun v3 v9 wr => ∃ (k K : Nat) (x : Int), v3 = .int .u32 x ∧ v9 = .int .i64 (k : Int) ∧ k ≤ l.length ∧ Aside0 (act_Most.l0 K x l (l.length : Int) (k : Int) = some m) ∧ Aside0 (Below w.heap.size w wr)) (fun _ v9 _ => l.length - (intOf v9).toNat)
  case atStart => exact ⟨0, K, x, rfl, rfl, by omega, HH, HB⟩
  case round =>
    clear HH HB
    obtain ⟨k, K, x, rfl, rfl, hk, HH, HB⟩ := hrel
    have hh := HH.out
    obtain ⟨K', rfl⟩ : ∃ m, K = m + 1 := by
      cases K with
      | zero => cases hh
      | succ K => exact ⟨K, rfl⟩
    rw [act_Most.l0] at hh
    by_cases hlt : k < l.length
    · rw [if_pos (by omega), if_pos (by omega), if_pos (by omega)] at hh
      have d1 : decide ((k : Int) < (l.length : Int)) = true := decide_eq_true (by omega)
      have d2 : decide (k < l.length) = true := decide_eq_true hlt
      obtain ⟨ad, ea, z0⟩ := Kd.at_int (Kd.C_below HR.out HB.out) (k : Int) (by omega) (by omega)
      cases ea
      obtain ⟨y, hy⟩ : ∃ y, rd l (k : Int) = y := ⟨_, rfl⟩
      rw [hy] at z0 hh
      rw [Int.toNat_natCast] at z0
      have p1 : (0 ≤ (k : Int)) = True := eq_true (by omega)
      have p2 : ((k : Int) < (l.length : Int)) = True := eq_true (by omega)
      have p3 : (k < l.length) = True := eq_true (by omega)
      have HL := Aside0.mk hlt
      have HKW := Aside0.mk (show wrap64 ((k : Int) + 1) = ((k + 1 : Nat) : Int) by have := HM.out; rw [IntWalk.wrap64_in _ (by omega)]; rfl)
      clear hlt hk hy
      rw [HKW.out] at hh
      by_cases h0 : k = 0
      · rw [if_pos (by omega)] at hh
        have e0 : ((k : Int) == 0) = true := by rw [beq_iff_eq]; omega
        have HA := Aside0.mk hh
        clear hh HH h0
        go_wp2_with fail
        rw [HKW.out]
        refine ⟨⟨k + 1, K', y, rfl, rfl, by have := HL.out; omega, HA, HB⟩, ?_⟩
        have := HL.out
        simp only [intOf]
        omega
      · have e0 : ((k : Int) == 0) = false := by rw [beq_eq_false_iff_ne]; omega
        rw [if_neg (by omega)] at hh
        obtain ⟨⟨b1, b2⟩, hb, hh⟩ := Option.bind_eq_some_iff.1 hh
        obtain ⟨⟨c1, c2⟩, hc, hh⟩ := Option.bind_eq_some_iff.1 hh
        simp only at hh
        have HO1 := Aside0.mk hb
        have HO2 := Aside0.mk hc
        have HA := Aside0.mk hh
        clear hb hc hh HH h0
        go_wp2_with fail
        refine (act_Of.calls K' y b1 b2 _ HO1.out).mono ?_
        rintro e w2 ⟨rfl, hb⟩
        have HB2 := Aside0.mk (below_then HB.out HB.out.size hb)
        clear hb
        go_wp2_with fail
        refine (act_Of.calls K' x c1 c2 _ HO2.out).mono ?_
        rintro e w3 ⟨rfl, hb⟩
        have HB3 := Aside0.mk (below_then HB2.out HB2.out.size hb)
        clear hb z0
        by_cases hlt : b1 < c1
        · have e1 : decide (b1 < c1) = true := decide_eq_true hlt
          have ha := HA.out
          rw [if_pos hlt] at ha
          have HA2 := Aside0.mk ha
          clear ha hlt HA
          go_wp2_with fail
          rw [HKW.out]
          refine ⟨⟨k + 1, K', y, rfl, rfl, by have := HL.out; omega, HA2, HB3⟩, ?_⟩
          have := HL.out
          simp only [intOf]
          omega
        · have e1 : decide (b1 < c1) = false := decide_eq_false hlt
          have ha := HA.out
          rw [if_neg hlt] at ha
          have HA2 := Aside0.mk ha
          clear ha hlt HA
          go_wp2_with fail
          rw [HKW.out]
          refine ⟨⟨k + 1, K', x, rfl, rfl, by have := HL.out; omega, HA2, HB3⟩, ?_⟩
          have := HL.out
          simp only [intOf]
          omega
    · rw [if_neg (by omega)] at hh
      cases hh
      have d1 : decide ((k : Int) < (l.length : Int)) = false := decide_eq_false (by omega)
      have d2 : decide (k < l.length) = false := decide_eq_false hlt
      clear hlt hk
      go_wp2_with fail
      go_ret
      exact ⟨rfl, HB.out⟩
end Go.Proofs.Ytidnojkijfinaaa.Fns
