/- Part of the proof of TopVerdictSaid. -/
import Derived.Test.YtidnojkijfinaaaQTpArr
import Derived.Test.YtidnojkijfinaaaQTpVm
import Derived.WalkMore
namespace Go.Proofs.Ytidnojkijfinaaa.Fns
open Go.RowKit Go.Proofs.YtidnojkijfinaaaW.PrintWords Go.Proofs.YtidnojkijfinaaaW.PrintLast Go.Proofs.YtidnojkijfinaaaW.PrintMore
attribute [local go_sem] max2_int min2_int max_two min_two max_three min_three max_four min_four
set_option linter.unusedVariables false
set_option linter.unusedSimpArgs false
structure InsOk (i : S84) (behind : Nat) : Prop where
  k0 : 0 ≤ i.f3
  k1 : i.f3 < 4294967296
  t0 : 0 ≤ i.f1
  t1 : i.f1 < 256
  j0 : 0 ≤ i.f2
  j1 : i.f2 < 256
  of : (i.f0 = 32 ∧ i.f3 % 4 = 0 ∧ i.f3 < 64 ∧ 0 < behind) ∨ (i.f0 = 84 ∧ 0 < behind) ∨ ((i.f0 = 21 ∨ i.f0 = 37 ∨ i.f0 = 53) ∧ i.f1 < behind ∧ i.f2 < behind) ∨ (i.f0 = 5 ∧ i.f3 < behind) ∨ i.f0 = 6
set_option maxHeartbeats 4000000 in
set_option maxRecDepth 100000 in
theorem jumps_no2 (c : Int) (h : c = 32 ∨ c = 84 ∨ c = 6) (w : World) : Calls Try.prog 66 #[.int .u16 c] w fun e w' => e = .returned (.bool false) ∧ w' = w := by
  rcases h with rfl | rfl | rfl
  all_goals
    go_enter Try.func66, Try.ntmps66
    go_wp2
    go_ret
    exact ⟨rfl, rfl⟩
set_option maxHeartbeats 8000000 in
set_option maxRecDepth 100000 in
theorem wrong_ok (i : S84) (behind : Nat) (hl : behind ≤ 9223372036854775807) (h : InsOk i behind) (w : World) :
    Calls Try.prog 45 #[.agg i.cells, .int .i64 (behind : Int)] w fun e w' => e = .returned (.int .i64 0) ∧ Below w.heap.size w w' := by
  have hu84 := Try.underlying84
  obtain ⟨c, jt, jf, K⟩ := i
  obtain ⟨k0, k1, t0, t1, j0, j1, of⟩ := h
  unfold S84.cells
  simp only at k0 k1 t0 t1 j0 j1 of
  have hw : IntKind.u64.wrap (behind : Int) = (behind : Int) := by
    simp [IntKind.wrap, IntKind.bits, IntKind.signed]
    omega
  rcases of with ⟨rfl, h1, h2, h3⟩ | ⟨rfl, h3⟩ | ⟨hc, h1, h2⟩ | ⟨rfl, h1⟩ | rfl
  · have e0 : ((behind : Int) == 0) = false := by rw [beq_eq_false_iff_ne]; omega
    have e1 : decide (64 ≤ K) = false := decide_eq_false (by omega)
    go_enter Try.func45, Try.ntmps45
    go_wp2_with fail
    refine (insn_Known.calls 32 true _ rfl).mono ?_
    rintro e w1 ⟨rfl, hb⟩
    have HB1 := Aside0.mk hb
    have hb2 := blk_below (blk_new w (.cells #[.int .u16 32, .int .u8 jt, .int .u8 jf, .int .u32 K] 84 (0, 0))) hb
    have i0 : w1.cell? ⟨w.heap.size, 0, none⟩ = some (.int .u16 32) := (blk_cell hb2 0).trans rfl
    have i1 : w1.cell? ⟨w.heap.size, 1, none⟩ = some (.int .u8 jt) := (blk_cell hb2 1).trans rfl
    have i2 : w1.cell? ⟨w.heap.size, 2, none⟩ = some (.int .u8 jf) := (blk_cell hb2 2).trans rfl
    have i3 : w1.cell? ⟨w.heap.size, 3, none⟩ = some (.int .u32 K) := (blk_cell hb2 3).trans rfl
    clear hb hb2
    go_wp2_with ((go_at_call 66; refine (jumps_no2 32 (by simp) _).mono ?_; rintro e w2 ⟨rfl, hw2⟩; subst hw2))
    all_goals
      go_ret
      exact ⟨rfl, below_then (below_alloc (Below.refl _ _) _) (by simp) HB1.out⟩
  · have e0 : ((behind : Int) == 0) = false := by rw [beq_eq_false_iff_ne]; omega
    go_enter Try.func45, Try.ntmps45
    go_wp2_with fail
    refine (insn_Known.calls 84 true _ rfl).mono ?_
    rintro e w1 ⟨rfl, hb⟩
    have HB1 := Aside0.mk hb
    have hb2 := blk_below (blk_new w (.cells #[.int .u16 84, .int .u8 jt, .int .u8 jf, .int .u32 K] 84 (0, 0))) hb
    have i0 : w1.cell? ⟨w.heap.size, 0, none⟩ = some (.int .u16 84) := (blk_cell hb2 0).trans rfl
    have i1 : w1.cell? ⟨w.heap.size, 1, none⟩ = some (.int .u8 jt) := (blk_cell hb2 1).trans rfl
    have i2 : w1.cell? ⟨w.heap.size, 2, none⟩ = some (.int .u8 jf) := (blk_cell hb2 2).trans rfl
    have i3 : w1.cell? ⟨w.heap.size, 3, none⟩ = some (.int .u32 K) := (blk_cell hb2 3).trans rfl
    clear hb hb2
    go_wp2_with ((go_at_call 66; refine (jumps_no2 84 (by simp) _).mono ?_; rintro e w2 ⟨rfl, hw2⟩; subst hw2))
    all_goals
      go_ret
      exact ⟨rfl, below_then (below_alloc (Below.refl _ _) _) (by simp) HB1.out⟩
  · have e0 : ((behind : Int) == 0) = false := by rw [beq_eq_false_iff_ne]; omega
    have e1 : decide ((behind : Int) ≤ max jt jf) = false := decide_eq_false (by omega)
    have HC := Aside0.mk (show c ∈ codes by rcases hc with rfl | rfl | rfl <;> decide)
    have HC2 := Aside0.mk (show c = 21 ∨ c = 37 ∨ c = 53 ∨ c = 5 by omega)
    have n1 : (c == 32) = false := by rw [beq_eq_false_iff_ne]; omega
    have n2 : (c == 96) = false := by rw [beq_eq_false_iff_ne]; omega
    have n3 : (c == 97) = false := by rw [beq_eq_false_iff_ne]; omega
    have n4 : (c == 2) = false := by rw [beq_eq_false_iff_ne]; omega
    have n5 : (c == 3) = false := by rw [beq_eq_false_iff_ne]; omega
    have n6 : (c == 52) = false := by rw [beq_eq_false_iff_ne]; omega
    have n7 : (c == 100) = false := by rw [beq_eq_false_iff_ne]; omega
    have n8 : (c == 116) = false := by rw [beq_eq_false_iff_ne]; omega
    have n9 : (c == 5) = false := by rw [beq_eq_false_iff_ne]; omega
    have n10 : (c != 5) = true := by simp [n9, bne]
    clear hc
    go_enter Try.func45, Try.ntmps45
    go_wp2_with fail
    refine (insn_Known.calls c true _ (if_pos HC.out)).mono ?_
    rintro e w1 ⟨rfl, hb⟩
    have HB1 := Aside0.mk hb
    have hb2 := blk_below (blk_new w (.cells #[.int .u16 c, .int .u8 jt, .int .u8 jf, .int .u32 K] 84 (0, 0))) hb
    have i0 : w1.cell? ⟨w.heap.size, 0, none⟩ = some (.int .u16 c) := (blk_cell hb2 0).trans rfl
    have i1 : w1.cell? ⟨w.heap.size, 1, none⟩ = some (.int .u8 jt) := (blk_cell hb2 1).trans rfl
    have i2 : w1.cell? ⟨w.heap.size, 2, none⟩ = some (.int .u8 jf) := (blk_cell hb2 2).trans rfl
    have i3 : w1.cell? ⟨w.heap.size, 3, none⟩ = some (.int .u32 K) := (blk_cell hb2 3).trans rfl
    clear hb hb2
    go_wp2_with ((go_at_call 66; refine (jumps_at c HC2.out _).mono ?_; rintro e w2 ⟨rfl, hw2⟩; subst hw2))
    all_goals
      go_ret
      exact ⟨rfl, below_then (below_alloc (Below.refl _ _) _) (by simp) HB1.out⟩
  · have e0 : ((behind : Int) == 0) = false := by rw [beq_eq_false_iff_ne]; omega
    have e1 : decide ((behind : Int) ≤ K) = false := decide_eq_false (by omega)
    have e2 : IntKind.u64.wrap K = K := IntWalk.u64_in _ (by omega)
    go_enter Try.func45, Try.ntmps45
    go_wp2_with fail
    refine (insn_Known.calls 5 true _ rfl).mono ?_
    rintro e w1 ⟨rfl, hb⟩
    have HB1 := Aside0.mk hb
    have hb2 := blk_below (blk_new w (.cells #[.int .u16 5, .int .u8 jt, .int .u8 jf, .int .u32 K] 84 (0, 0))) hb
    have i0 : w1.cell? ⟨w.heap.size, 0, none⟩ = some (.int .u16 5) := (blk_cell hb2 0).trans rfl
    have i1 : w1.cell? ⟨w.heap.size, 1, none⟩ = some (.int .u8 jt) := (blk_cell hb2 1).trans rfl
    have i2 : w1.cell? ⟨w.heap.size, 2, none⟩ = some (.int .u8 jf) := (blk_cell hb2 2).trans rfl
    have i3 : w1.cell? ⟨w.heap.size, 3, none⟩ = some (.int .u32 K) := (blk_cell hb2 3).trans rfl
    clear hb hb2
    go_wp2_with ((go_at_call 66; refine (jumps_no2 32 (by simp) _).mono ?_; rintro e w2 ⟨rfl, hw2⟩; subst hw2))
    all_goals
      go_ret
      exact ⟨rfl, below_then (below_alloc (Below.refl _ _) _) (by simp) HB1.out⟩
  · by_cases hb0 : behind = 0
    · subst hb0
      go_enter Try.func45, Try.ntmps45
      go_wp2_with fail
      refine (insn_Known.calls 6 true _ rfl).mono ?_
      rintro e w1 ⟨rfl, hb⟩
      have HB1 := Aside0.mk hb
      have hb2 := blk_below (blk_new w (.cells #[.int .u16 6, .int .u8 jt, .int .u8 jf, .int .u32 K] 84 (0, 0))) hb
      have i0 : w1.cell? ⟨w.heap.size, 0, none⟩ = some (.int .u16 6) := (blk_cell hb2 0).trans rfl
      have i1 : w1.cell? ⟨w.heap.size, 1, none⟩ = some (.int .u8 jt) := (blk_cell hb2 1).trans rfl
      have i2 : w1.cell? ⟨w.heap.size, 2, none⟩ = some (.int .u8 jf) := (blk_cell hb2 2).trans rfl
      have i3 : w1.cell? ⟨w.heap.size, 3, none⟩ = some (.int .u32 K) := (blk_cell hb2 3).trans rfl
      clear hb hb2
      go_wp2_with (first | (go_at_call 66; refine (jumps_no2 6 (by simp) _).mono ?_; rintro e w2 ⟨rfl, hw2⟩; subst hw2) | (go_at_call 67; refine (ends_at _).mono ?_; rintro e w2 ⟨rfl, hw2⟩; subst hw2))
      all_goals
        go_ret
        exact ⟨rfl, below_then (below_alloc (Below.refl _ _) _) (by simp) HB1.out⟩
    · have e0 : ((behind : Int) == 0) = false := by rw [beq_eq_false_iff_ne]; omega
      go_enter Try.func45, Try.ntmps45
      go_wp2_with fail
      refine (insn_Known.calls 6 true _ rfl).mono ?_
      rintro e w1 ⟨rfl, hb⟩
      have HB1 := Aside0.mk hb
      have hb2 := blk_below (blk_new w (.cells #[.int .u16 6, .int .u8 jt, .int .u8 jf, .int .u32 K] 84 (0, 0))) hb
      have i0 : w1.cell? ⟨w.heap.size, 0, none⟩ = some (.int .u16 6) := (blk_cell hb2 0).trans rfl
      have i1 : w1.cell? ⟨w.heap.size, 1, none⟩ = some (.int .u8 jt) := (blk_cell hb2 1).trans rfl
      have i2 : w1.cell? ⟨w.heap.size, 2, none⟩ = some (.int .u8 jf) := (blk_cell hb2 2).trans rfl
      have i3 : w1.cell? ⟨w.heap.size, 3, none⟩ = some (.int .u32 K) := (blk_cell hb2 3).trans rfl
      clear hb hb2
      go_wp2_with ((go_at_call 66; refine (jumps_no2 6 (by simp) _).mono ?_; rintro e w2 ⟨rfl, hw2⟩; subst hw2))
      all_goals
        go_ret
        exact ⟨rfl, below_then (below_alloc (Below.refl _ _) _) (by simp) HB1.out⟩
def ProgOk (l : List S84) : Prop := 0 < l.length ∧ l.length ≤ 4096 ∧ ∀ (n : Nat) (h : n < l.length), InsOk l[n] (l.length - 1 - n)
set_option maxHeartbeats 8000000 in
set_option maxRecDepth 100000 in
theorem check_ok (A : Option Addr) (c : Nat) (l : List S84) (w : World) (hr : Kd.C k84 w A l.length l) (hl : ProgOk l) :
    Calls Try.prog 26 #[.slice A l.length c] w fun e w' => e = .returned (.tuple #[.int .i64 0, .int .i64 (-1)]) ∧ Below w.heap.size w w' := by
  obtain ⟨h0, h1, hi⟩ := hl
  have HR := Aside0.mk hr
  have HI := Aside0.mk hi
  have HB := Aside0.mk (Below.refl w.heap.size w)
  clear hr hi
  have e0 : ((l.length : Int) == 0) = false := by rw [beq_eq_false_iff_ne]; omega
  have e1 : decide (4096 < (l.length : Int)) = false := decide_eq_false (by omega)
  have e2 : decide (4096 < l.length) = false := decide_eq_false (by omega)
  have hu84 := Try.underlying84
  go_enter Try.func26, Try.ntmps26
  go_wp2_with fail
  go_step3
  go_wp2_with fail
  go_step3
  go_wp2_with fail
  go_loopw [4, 5, 17] (fun v4 v5 v17 wr => v4 = .int .i64 0 ∧ v5 = .int .i64 (-1) ∧ ∃ k : Nat, v17 = .int .i64 (k : Int) ∧ k ≤ l.length ∧ Aside0 (Below w.heap.size w wr)) (fun _ _ v17 _ => l.length - (intOf v17).toNat)
  case atStart => exact ⟨rfl, rfl, 0, rfl, by omega, HB⟩
  case round =>
    clear HB
    obtain ⟨rfl, rfl, k, rfl, hk, HB1⟩ := hrel
    by_cases hlt : k < l.length
    · have d1 : decide ((k : Int) < (l.length : Int)) = true := decide_eq_true (by omega)
      have d2 : decide (k < l.length) = true := decide_eq_true hlt
      have hio := HI.out k hlt
      obtain ⟨ad, ea, x0, x1, x2, x3⟩ := at_T84 (Kd.C_below HR.out HB1.out) (k : Int) (by omega) (by omega)
      have hgd : rd_T84 l (k : Int) = l[k] := by simp [rd_T84, List.getD_eq_getElem?_getD, hlt]
      rw [hgd, Int.toNat_natCast] at x0 x1 x2 x3
      cases ea
      generalize l[k] = i at hio x0 x1 x2 x3
      clear hgd
      have HIO := Aside0.mk hio
      clear hio
      have p1 : (0 ≤ (k : Int)) = True := eq_true (by omega)
      have p2 : ((k : Int) < (l.length : Int)) = True := eq_true (by omega)
      have p3 : (k < l.length) = True := eq_true (by omega)
      have HL := Aside0.mk hlt
      clear hlt hk
      go_wp2_with fail
      rw [show wrap64 ((l.length : Int) - 1 - (k : Int)) = ((l.length - 1 - k : Nat) : Int) by have := HL.out; rw [IntWalk.wrap64_in _ (by omega)]; omega]
      refine (wrong_ok i (l.length - 1 - k) (by omega) HIO.out _).mono ?_
      rintro e w2 ⟨rfl, hb⟩
      have HB2 := Aside0.mk (below_then (below_alloc HB1.out _) (by have := HB1.out.size; simp; omega) hb)
      clear hb
      have HKW := Aside0.mk (show wrap64 ((k : Int) + 1) = ((k + 1 : Nat) : Int) by have := HL.out; rw [IntWalk.wrap64_in _ (by omega)]; rfl)
      go_wp2_with fail
      rw [HKW.out]
      refine ⟨⟨rfl, rfl, k + 1, rfl, by have := HL.out; omega, HB2⟩, ?_⟩
      have := HL.out
      simp only [intOf]
      omega
    · have d1 : decide ((k : Int) < (l.length : Int)) = false := decide_eq_false (by omega)
      have d2 : decide (k < l.length) = false := decide_eq_false hlt
      clear hlt
      go_wp2_with fail
      simp only [Exit.noGoto_ret]
      go_ret2
      exact ⟨rfl, HB1.out⟩
end Go.Proofs.Ytidnojkijfinaaa.Fns
