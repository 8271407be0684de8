/- Part of the proof of TopVerdictSaid. -/
import Derived.Test.YtidnojkijfinaaaQTpStack
import Derived.Test.YtidnojkijfinaaaQTpMost
namespace Go.Proofs.Ytidnojkijfinaaa.Fns
open Go.RowKit Go.Proofs.YtidnojkijfinaaaW.PrintWords Go.Proofs.YtidnojkijfinaaaW.PrintLast Go.Proofs.YtidnojkijfinaaaW.PrintMore
attribute [local go_sem] max2_int min2_int max_two min_two max_three min_three max_four min_four
set_option linter.unusedVariables false
set_option linter.unusedSimpArgs false
def Answers (d : DT) (ps : List (List S84)) (ans : List Int) : Prop := ans.length = ps.length ∧ ∀ (j : Nat) (h : j < ps.length) (h' : j < ans.length), ProgOk ps[j] ∧ ∃ K, vmRun d ps[j] K 0 0 = some ans[j]
def MostAs (m : Int) (ans : List Int) (e : Ending) : Prop := ∃ n : Int, e = .returned (.tuple #[.int .u32 m, .int .i64 n]) ∧ (ans = [m] → n = 0)
theorem info23 : (Try.prog.info? 23).map (fun i => (i.zero, i.size, i.bytes)) = some (some (.int .u32 0), 1, 4) := by kernel_rfl
set_option maxHeartbeats 16000000 in
set_option maxRecDepth 100000 in
theorem srun_calls (w : World) (g : Nat) (ps : List (List S84)) (cost : Int) (d : DT) (ans : List Int) (k : Nat) (m : Int) (hs : Stk w g ps cost) (ha : Answers d ps ans) (hps : ps.length < 32) (hm : act_Most.f k ans.reverse = some m) :
    Calls Try.prog 11 #[.pointer (some ⟨g, 0, none⟩), .agg d.cells] w fun e w' => MostAs m ans e ∧ Below w.heap.size w w' := by
  obtain ⟨B, cb, h1, h2, h3⟩ := hs
  have hB := Kd.F_now h3
  have HC := Aside0.mk hB
  have H1 := Aside0.mk h1
  have HA := Aside0.mk ha
  have HM := Aside0.mk hm
  clear h1 h3 ha hm hB
  have HD : d.cells = #[.int .u32 d.nr, .int .u32 d.arch, .int .u64 d.ip, .int .u64 d.a0, .int .u64 d.a1, .int .u64 d.a2, .int .u64 d.a3, .int .u64 d.a4, .int .u64 d.a5] := rfl
  have HDA := Aside0.mk HD
  rw [HD]
  clear HD
  have x0 : w.cell? ⟨g, 0, none⟩ = some (.slice B ps.length cb) := (blk_cell H1.out 0).trans rfl
  have x0a : (w.alloc (.cells #[.int .u32 d.nr, .int .u32 d.arch, .int .u64 d.ip, .int .u64 d.a0, .int .u64 d.a1, .int .u64 d.a2, .int .u64 d.a3, .int .u64 d.a4, .int .u64 d.a5] 27)).cell? ⟨g, 0, none⟩ = some (.slice B ps.length cb) := (blk_cell (blk_alloc H1.out _) 0).trans rfl
  go_enter Try.func11, Try.ntmps11
  go_wp2_with fail
  have K1 := Aside0.mk (blk_alloc H1.out (.cells d.cells 27 (0, 0)))
  have K2 := Aside0.mk (blk_new w (.cells d.cells 27 (0, 0)))
  have HB := Aside0.mk (below_alloc (Below.refl w.heap.size w) (.cells d.cells 27 (0, 0)))
  have HWR := Aside0.mk (show wrap64 ((ps.length : Int) - 1) = (ps.length : Int) - 1 from IntWalk.wrap64_in _ (by omega))
  try rw [HWR.out]
  go_loopw [6, 7] (fun v6 v7 wr => ∃ r : Nat, v7 = .int .i64 ((r : Int) - 1) ∧ r ≤ ps.length ∧ Aside0 (Kd.R (Kd.int .u32) 23 wr w.heap.size (fun _ => True) v6 (ans.drop r).reverse) ∧ Aside0 (Below w.heap.size w wr) ∧ Aside0 (wr.heap[w.heap.size]? = some (.cells d.cells 27 (0, 0)))) (fun _ v7 _ => (intOf v7 + 1).toNat)
  case atStart =>
    refine ⟨ps.length, rfl, Nat.le_refl _, ⟨?_⟩, HB, K2⟩
    rw [List.drop_eq_nil_of_le (by rw [HA.out.1]; exact Nat.le_refl _)]
    exact Kd.R_nil _ _ _ _ _
  case round =>
    clear K1 K2 HB x0 x0a
    obtain ⟨r', rfl, hr, HO, HB, K2⟩ := hrel
    have K1 := Aside0.mk (blk_below H1.out HB.out)
    by_cases h0 : r' = 0
    · subst h0
      have p0 : decide ((0 : Int) ≤ -1) = false := by decide
      have HO0 : Aside0 (Kd.R (Kd.int .u32) 23 wr w.heap.size (fun _ => True) u6 ans.reverse) := ⟨by have := HO.out; rwa [List.drop_zero] at this⟩
      obtain ⟨A6, c6, hv6⟩ := Kd.R_slice HO0.out
      subst hv6
      have HC6 := Aside0.mk (Kd.R_reads' HO0.out).2.2
      have HLN := Aside0.mk (show ans.reverse.length ≤ 32 by have := HA.out.1; simp; omega)
      have HPL := Aside0.mk (show ans.reverse.length = ps.length by have := HA.out.1; simp; omega)
      have HA1 := Aside0.mk (show ans = [m] → ans.reverse = [m] from fun h => by rw [h]; rfl)
      generalize hL : ans.reverse = L at HM HO0 HC6 HLN HPL HA1
      clear HO hL
      go_wp2_with fail
      refine (act_Most.calls k A6 c6 L m _ HC6.out HM.out).mono ?_
      rintro e w5 ⟨rfl, hb⟩
      have HB5 := Aside0.mk (below_then HB.out HB.out.size hb)
      have HC7 := Aside0.mk (Kd.C_below HC6.out hb)
      clear hb HC6 HO0 HB K2 K1
      go_wp2_with fail
      go_loopw [45] (fun v45 ws => ∃ j : Nat, v45 = .int .i64 (j : Int) ∧ j ≤ L.length ∧ Aside0 (ans = [m] → j = 0) ∧ Aside0 (Below w.heap.size w ws) ∧ Aside0 (Kd.C (Kd.int .u32) ws A6 L.length L)) (fun v45 _ => L.length - (intOf v45).toNat)
      case atStart => exact ⟨0, rfl, by omega, ⟨fun _ => rfl⟩, HB5, HC7⟩
      case round =>
        clear HB5 HC7
        obtain ⟨j, rfl, hj, HJ0, HB, HC7⟩ := hrel
        have K1 := Aside0.mk (blk_below H1.out HB.out)
        by_cases hlt : j < L.length
        · have d1 : decide ((j : Int) < (L.length : Int)) = true := decide_eq_true (by omega)
          have d2 : decide (j < L.length) = true := decide_eq_true hlt
          obtain ⟨ad, ea, z0⟩ := Kd.at_int HC7.out (j : Int) (by omega) (by omega)
          cases ea
          rw [Int.toNat_natCast] at z0
          have HY := Aside0.mk (show ans = [m] → rd L (j : Int) = m from fun h => by have h1 := HJ0.out h; subst h1; rw [HA1.out h]; rfl)
          generalize rd L (j : Int) = y at z0 HY
          have q1 : (0 ≤ (j : Int)) = True := eq_true (by omega)
          have q2 : ((j : Int) < (L.length : Int)) = True := eq_true (by omega)
          have q3 : (j < L.length) = True := eq_true (by omega)
          have HL := Aside0.mk hlt
          have HKW := Aside0.mk (show wrap64 ((j : Int) + 1) = ((j + 1 : Nat) : Int) by have := HLN.out; rw [IntWalk.wrap64_in _ (by omega)]; rfl)
          clear hlt hj
          cases hq : (y == m)
          · go_wp2_with fail
            rw [HKW.out]
            refine ⟨⟨j + 1, rfl, by have := HL.out; omega, ⟨fun h => by rw [HY.out h] at hq; simp at hq⟩, HB, HC7⟩, ?_⟩
            have := HL.out
            simp only [intOf]
            omega
          · have hx0 : wr.cell? ⟨g, 0, none⟩ = some (.slice B ps.length cb) := (blk_cell K1.out 0).trans rfl
            go_wp2_with fail
            go_quiet (fail)
            go_wp2
            go_ret2
            exact ⟨⟨_, rfl, fun h => by have h1 := HJ0.out h; have h2 := HPL.out; rw [HA1.out h] at h2; subst h1; rw [← h2]; show wrap64 (((1 : Nat) : Int) - 1 - ((0 : Nat) : Int)) = 0; rw [IntWalk.wrap64_in _ (by omega)]; rfl⟩, pw_below_drewN HB.out _⟩
        · have d1 : decide ((j : Int) < (L.length : Int)) = false := decide_eq_false (by omega)
          have d2 : decide (j < L.length) = false := decide_eq_false hlt
          have HNO := Aside0.mk (show ans = [m] → False from fun h => by have h1 := HJ0.out h; subst h1; rw [HA1.out h] at hlt; exact hlt (by simp))
          clear hlt hj
          go_wp2_with fail
          go_ret2
          exact ⟨⟨_, rfl, fun h => (HNO.out h).elim⟩, HB.out⟩
    · obtain ⟨r, rfl⟩ : ∃ m, r' = m + 1 := ⟨r' - 1, by omega⟩
      have e1 : ((r + 1 : Nat) : Int) - 1 = (r : Int) := by omega
      rw [e1]
      have p0 : decide (0 ≤ (r : Int)) = true := decide_eq_true (by omega)
      have p1 : (0 ≤ (r : Int)) = True := eq_true (by omega)
      have p2 : ((r : Int) < (ps.length : Int)) = True := eq_true (by omega)
      have p3 : (r < ps.length) = True := eq_true (by omega)
      obtain ⟨ad, A0, c0, ea, z0, hc0, z1⟩ := at_L17 (Kd.C_below HC.out HB.out) (r : Int) (by omega) (by omega)
      cases ea
      have hrl : r < ps.length := by omega
      have hra : r < ans.length := by rw [HA.out.1]; exact hrl
      have hgd : rd_L17 ps (r : Int) = ps[r] := by simp [rd_L17, List.getD_eq_getElem?_getD, hrl]
      rw [hgd, Int.toNat_natCast] at z0
      rw [hgd] at hc0 z1
      obtain ⟨hpo, KK, hv⟩ := HA.out.2 r hrl hra
      have hrev : (ans.drop r).reverse = (ans.drop (r + 1)).reverse ++ [ans[r]] := by rw [List.drop_eq_getElem_cons hra, List.reverse_cons]
      have HLA := Aside0.mk (show (ans.drop (r + 1)).reverse.length ≤ 32 by have := HA.out.1; simp; omega)
      generalize ps[r] = p at z0 hc0 z1 hpo hv
      generalize ans[r] = an at hv hrev
      have HPO := Aside0.mk hpo
      have HV := Aside0.mk hv
      have HREV := Aside0.mk hrev
      have HZ := Aside0.mk z1
      have HL := Aside0.mk hrl
      clear hgd hpo hv hrev z1 hrl hra h0 hr e1
      have KS2 : Aside0 (wr.cell? ⟨g, 0, none⟩ = some (.slice (some ad) ps.length cb) ∧ wr.cell? (ad.add r) = some (.slice A0 p.length c0) ∧ wr.cell? ⟨w.heap.size, 0, none⟩ = some (.int .u32 d.nr) ∧ wr.cell? ⟨w.heap.size, 1, none⟩ = some (.int .u32 d.arch) ∧ wr.cell? ⟨w.heap.size, 2, none⟩ = some (.int .u64 d.ip) ∧ wr.cell? ⟨w.heap.size, 3, none⟩ = some (.int .u64 d.a0) ∧ wr.cell? ⟨w.heap.size, 4, none⟩ = some (.int .u64 d.a1) ∧ wr.cell? ⟨w.heap.size, 5, none⟩ = some (.int .u64 d.a2) ∧ wr.cell? ⟨w.heap.size, 6, none⟩ = some (.int .u64 d.a3) ∧ wr.cell? ⟨w.heap.size, 7, none⟩ = some (.int .u64 d.a4) ∧ wr.cell? ⟨w.heap.size, 8, none⟩ = some (.int .u64 d.a5)) := ⟨⟨(blk_cell K1.out 0).trans rfl, z0, (blk_cell K2.out 0).trans rfl, (blk_cell K2.out 1).trans rfl, (blk_cell K2.out 2).trans rfl, (blk_cell K2.out 3).trans rfl, (blk_cell K2.out 4).trans rfl, (blk_cell K2.out 5).trans rfl, (blk_cell K2.out 6).trans rfl, (blk_cell K2.out 7).trans rfl, (blk_cell K2.out 8).trans rfl⟩⟩
      have HKeep : Aside0 (∀ w4, Below wr.drew.heap.size wr.drew w4 → w4.cell? ⟨g, 0, none⟩ = some (.slice (some ad) ps.length cb) ∧ w4.cell? (ad.add r) = some (.slice A0 p.length c0) ∧ w4.cell? ⟨w.heap.size, 0, none⟩ = some (.int .u32 d.nr) ∧ w4.cell? ⟨w.heap.size, 1, none⟩ = some (.int .u32 d.arch) ∧ w4.cell? ⟨w.heap.size, 2, none⟩ = some (.int .u64 d.ip) ∧ w4.cell? ⟨w.heap.size, 3, none⟩ = some (.int .u64 d.a0) ∧ w4.cell? ⟨w.heap.size, 4, none⟩ = some (.int .u64 d.a1) ∧ w4.cell? ⟨w.heap.size, 5, none⟩ = some (.int .u64 d.a2) ∧ w4.cell? ⟨w.heap.size, 6, none⟩ = some (.int .u64 d.a3) ∧ w4.cell? ⟨w.heap.size, 7, none⟩ = some (.int .u64 d.a4) ∧ w4.cell? ⟨w.heap.size, 8, none⟩ = some (.int .u64 d.a5)) := by
        refine ⟨fun w4 hb => ?_⟩
        obtain ⟨q0, q1, q2, q3, q4, q5, q6, q7, q8, q9, q10⟩ := KS2.out
        exact ⟨pw_cell_below hb q0, pw_cell_below hb q1, pw_cell_below hb q2, pw_cell_below hb q3, pw_cell_below hb q4, pw_cell_below hb q5, pw_cell_below hb q6, pw_cell_below hb q7, pw_cell_below hb q8, pw_cell_below hb q9, pw_cell_below hb q10⟩
      clear z0
      go_wp2_with fail
      go_region_held3 (fun W => W.cell? ⟨g, 0, none⟩ = some (.slice (some ad) ps.length cb) ∧ W.cell? (ad.add r) = some (.slice A0 p.length c0) ∧ W.cell? ⟨w.heap.size, 0, none⟩ = some (.int .u32 d.nr) ∧ W.cell? ⟨w.heap.size, 1, none⟩ = some (.int .u32 d.arch) ∧ W.cell? ⟨w.heap.size, 2, none⟩ = some (.int .u64 d.ip) ∧ W.cell? ⟨w.heap.size, 3, none⟩ = some (.int .u64 d.a0) ∧ W.cell? ⟨w.heap.size, 4, none⟩ = some (.int .u64 d.a1) ∧ W.cell? ⟨w.heap.size, 5, none⟩ = some (.int .u64 d.a2) ∧ W.cell? ⟨w.heap.size, 6, none⟩ = some (.int .u64 d.a3) ∧ W.cell? ⟨w.heap.size, 7, none⟩ = some (.int .u64 d.a4) ∧ W.cell? ⟨w.heap.size, 8, none⟩ = some (.int .u64 d.a5))
        ((first | exact KS2.out | exact KS4.out | go_keep))
        (first
          | (go_at_call 30; refine (run_calls A0 c0 p d _ an KK (Kd.C_below HZ.out (below_drew (Below.refl _ _))) HPO.out HV.out).mono ?_; rintro e w4 ⟨⟨ns, rfl⟩, hb⟩; have KS4 := Aside0.mk (HKeep.out _ hb); have N2 := Aside0.mk hb; clear hb))
      have HB4 := Aside0.mk (below_then HB.out HB.out.size (show Below wr.heap.size wr w4 from ⟨N2.out.os, N2.out.tape, N2.out.output, N2.out.size, N2.out.block⟩))
      have HO4 := Aside0.mk (Kd.R_below HO.out (show Below wr.heap.size wr w4 from ⟨N2.out.os, N2.out.tape, N2.out.output, N2.out.size, N2.out.block⟩))
      have K4 := Aside0.mk (blk_below (blk_drew K2.out) N2.out)
      have HW2 := Aside0.mk (show wrap64 ((r : Int) - 1) = (r : Int) - 1 from IntWalk.wrap64_in _ (by have := HL.out; omega))
      clear KS2 KS4 HKeep N2 HO HB K2 K1
      go_wp2_with (first
        | ((with_reducible refine gate_dst (N := 40) rfl ?_); refine Kd.R_append (Kd.int .u32) (w0 := w) (W := w4) w.heap.size rfl (.tmp 37) (.tmp 39) 33 23 (.int .u32 0) 4 rfl Try.underlying33 info23 rfl (by decide) (by omega) u6 (ans.drop (r + 1)).reverse an [.int .u32 an] (fun _ => True) (fun _ => False) rfl rfl ?aP (fun _ hk => hk.elim) ?aF ?aO ?aB ?aS ?aL ?_; (case aP => exact rfl); (case aF => exact fun _ _ => trivial); (case aO => exact HO4.out); (case aB => exact HB4.out); (case aS => exact HB4.out.size); (case aL => have := HLA.out; omega); intro v5 w5 ho5 hb5 hg5 hat5; have HO5 := Aside0.mk ho5; have HB5 := Aside0.mk hb5; have K5 := Aside0.mk (gr_blk hg5 K4.out (Kd.R_ne HO4.out K4.out (by decide))); clear ho5 hb5 hg5 hat5))
      rw [HW2.out]
      rw [← HREV.out] at HO5
      refine ⟨⟨r, rfl, by have := HL.out; omega, HO5, HB5, K5⟩, ?_⟩
      simp only [intOf]
      omega
end Go.Proofs.Ytidnojkijfinaaa.Fns
