/- Part of the proof of TopVerdictSaid. -/
import Derived.Test.YtidnojkijfinaaaQTpCompI
import Derived.Test.YtidnojkijfinaaaQTpRule
namespace Go.Proofs.Ytidnojkijfinaaa.Fns
open Go.RowKit Go.Maps Go.Proofs.YtidnojkijfinaaaW.PrintWords Go.Proofs.YtidnojkijfinaaaW.PrintLast Go.Proofs.YtidnojkijfinaaaW.PrintMore
attribute [local go_sem] max2_int min2_int max_two min_two max_three min_three max_four min_four
set_option linter.unusedVariables false
set_option linter.unusedSimpArgs false
def CompAns (dk da : Int) (l : List S72) (ce : Int) (w : World) (e : Ending) (w' : World) : Prop := Below w.heap.size w w' ∧
  (ce ≠ 0 → e = .returned (.tuple #[.slice none 0 0, .int .i64 ce])) ∧
  (ce = 0 → ((progR dk da l).length ≤ 4096 ∧ ∃ v, e = .returned (.tuple #[v, .int .i64 0]) ∧ k84.R 84 w' w.heap.size (fun _ => True) v (progR dk da l)) ∨ (4096 < (progR dk da l).length ∧ e = .returned (.tuple #[.slice none 0 0, .int .i64 4])))
set_option maxHeartbeats 16000000 in
set_option maxRecDepth 100000 in
theorem compile_calls (dk da : Int) (A : Option Addr) (c : Nat) (l : List S72) (w : World) (ce at_ : Int) (hr : Kd.C k72 w A l.length l) (hc : l.length ≤ c) (hi : RulesIn l) (hk : mean_Check.f 150 dk da l = some (ce, at_)) (hok : ce = 0 → RulesOk dk da l) :
    Calls Try.prog 6 #[.agg #[.int .i64 dk, .int .i64 da, .slice A l.length c]] w (CompAns dk da l ce w) := by
  have HR := Aside0.mk hr
  have HC := Aside0.mk hc
  have HI := Aside0.mk hi
  have HK := Aside0.mk hk
  have HOK := Aside0.mk hok
  clear hr hc hi hk hok
  have hu38 := Try.underlying38
  have hu72 := Try.underlying72
  have hu35 := Try.underlying35
  have hu78 := Try.underlying78
  have hmf : ∀ (fn : Fn) (first cap : Array Value) (w : World), (Instr.makeFunc fn first cap).run Try.prog w = .ok (.func fn first cap) w := fun _ _ _ _ => rfl
  go_enter Try.func6, Try.ntmps6
  go_wp2_with fail
  have HB0 := Aside0.mk (below_alloc (Below.refl w.heap.size w) (.cells #[.int .i64 dk, .int .i64 da, .slice A l.length c] 38 (0, 0)))
  have K0 := Aside0.mk (blk_new w (.cells #[.int .i64 dk, .int .i64 da, .slice A l.length c] 38 (0, 0)))
  refine (mean_Check.calls 150 dk da A c l ce at_ _ (Kd.C_below HR.out HB0.out) HC.out HK.out).mono ?_
  rintro e w1 ⟨rfl, hb⟩
  have HB1 := Aside0.mk (below_then HB0.out HB0.out.size hb)
  have K1 := Aside0.mk (blk_below K0.out hb)
  clear hb HB0 K0
  by_cases hce : ce = 0
  rotate_left
  · have e1 : (ce != 0) = true := by simpa using hce
    have HCE := Aside0.mk hce
    clear hce
    go_wp2_with fail
    go_ret2
    exact ⟨HB1.out, fun _ => rfl, fun h => absurd h HCE.out⟩
  · subst hce
    have RO := Aside0.mk (HOK.out rfl)
    clear HOK
    obtain ⟨kl, hkl⟩ : ∃ kl, actV ⟨1, 0⟩ = kl := ⟨_, rfl⟩
    obtain ⟨ot, hot⟩ : ∃ ot, actV ⟨dk, da⟩ = ot := ⟨_, rfl⟩
    obtain ⟨nrs, hnrs⟩ : ∃ nrs, numsR l = nrs := ⟨_, rfl⟩
    have HV1 := Aside0.mk (value_is kill_ok)
    have HV2 := Aside0.mk (value_is RO.out.dflt)
    rw [hkl] at HV1
    rw [hot] at HV2
    have HKL := Aside0.mk hkl
    have HOT := Aside0.mk hot
    have HNR := Aside0.mk hnrs
    have HN30 := Aside0.mk (show nrs.length ≤ 30 by rw [← hnrs]; exact nums_len l)
    clear hkl hot hnrs
    have x0 : w1.cell? ⟨w.heap.size, 0, none⟩ = some (.int .i64 dk) := (blk_cell K1.out 0).trans rfl
    have x1 : w1.cell? ⟨w.heap.size, 1, none⟩ = some (.int .i64 da) := (blk_cell K1.out 1).trans rfl
    go_wp2_with fail
    refine (act_Value.calls 1 0 kl 0 _ HV1.out.1).mono ?_
    rintro e w2 ⟨rfl, hb⟩
    have HB2 := Aside0.mk (below_then HB1.out HB1.out.size hb)
    have K2 := Aside0.mk (blk_below K1.out hb)
    clear hb HB1 K1 x0 x1
    have x0 : w2.cell? ⟨w.heap.size, 0, none⟩ = some (.int .i64 dk) := (blk_cell K2.out 0).trans rfl
    have x1 : w2.cell? ⟨w.heap.size, 1, none⟩ = some (.int .i64 da) := (blk_cell K2.out 1).trans rfl
    go_wp2_with fail
    refine (act_Value.calls dk da ot 0 _ HV2.out.1).mono ?_
    rintro e w3 ⟨rfl, hb⟩
    have HB3 := Aside0.mk (below_then HB2.out HB2.out.size hb)
    have K3 := Aside0.mk (blk_below K2.out hb)
    clear hb HB2 K2 x0 x1
    have HRC := Aside0.mk (Kd.C_below HR.out HB3.out)
    have HNN := Aside0.mk (fun (r : S72) (h : r ∈ l) => HI.out.names r h)
    have HMK := fun W => run_make30 nrs.length (by have := HN30.out; omega) W
    have KEEP : Aside0 (∀ W, Below w3.heap.size w3 W → W.cell? ⟨w.heap.size, 0, none⟩ = some (.int .i64 dk) ∧ W.cell? ⟨w.heap.size, 1, none⟩ = some (.int .i64 da) ∧ W.cell? ⟨w.heap.size, 2, none⟩ = some (.slice A l.length c)) :=
      ⟨fun W hb => ⟨(blk_cell (blk_below K3.out hb) 0).trans rfl, (blk_cell (blk_below K3.out hb) 1).trans rfl, (blk_cell (blk_below K3.out hb) 2).trans rfl⟩⟩
    go_wp2_with fail
    have tok1 : True := trivial
    go_cut [10] (fun v10 wc => ∃ (gp GL cn : Nat) (An : Option Addr), v10 = .pointer (some ⟨gp, 0, none⟩) ∧ Aside0 (CO w (box38 dk da A l.length c) (plan78 An nrs.length cn GL nrs.length) nrs An gp GL nrs.length 0 [] wc) ∧ Aside0 (nrs.length ≤ cn))
    case first =>
      go_region_held3 (fun W => W.cell? ⟨w.heap.size, 0, none⟩ = some (.int .i64 dk) ∧ W.cell? ⟨w.heap.size, 1, none⟩ = some (.int .i64 da) ∧ W.cell? ⟨w.heap.size, 2, none⟩ = some (.slice A l.length c))
        ((refine KEEP.out _ ?_; repeat (first | with_reducible exact Below.refl _ _ | with_reducible refine below_alloc ?_ _ | with_reducible refine below_drew ?_ | with_reducible refine below_thn ?_ hbb | with_reducible refine below_thn ?_ hba | with_reducible refine Below.setCell ?_ (by first | exact Nat.le_refl _ | exact hsa | exact Nat.le_trans hsa hsb | (simp; omega)) _)))
        (first
          | (go_at_call 22; clear tok1; refine (numbers_calls dk da A c l _ (Kd.C_below HRC.out (by repeat (first | with_reducible exact Below.refl _ _ | with_reducible refine below_alloc ?_ _ | with_reducible refine below_drew ?_))) HC.out HI.out.few HNN.out).mono ?_; rintro e wa ⟨va, rfl, hra, hba⟩; rw [HNR.out] at hra; obtain ⟨An, cn, rfl⟩ := Kd.R_slice hra; have hsa : w3.heap.size ≤ wa.heap.size := Nat.le_trans (by simp) hba.size; (try (have hga : wa.heap[w3.heap.size]? = some (.cells #[.slice none 0 0, .slice none 0 0] 78 (0, 0)) := blk_below (blk_new w3.drew (.cells #[.slice none 0 0, .slice none 0 0] 78 (0, 0))) hba)))
          | (go_at_call 22; refine (numbers_calls dk da A c l _ (Kd.C_below HRC.out (by repeat (first | with_reducible exact Below.refl _ _ | with_reducible refine below_alloc ?_ _ | with_reducible refine below_drew ?_ | with_reducible refine below_thn ?_ hba))) HC.out HI.out.few HNN.out).mono ?_; rintro e wb ⟨vb, rfl, hrb, hbb⟩; rw [HNR.out] at hrb; obtain ⟨Ab, cb, rfl⟩ := Kd.R_slice hrb; have hsb : wa.heap.size ≤ wb.heap.size := Nat.le_trans (by simp) hbb.size; (first | (have hgb := blk_below hga hbb; have g0 := (blk_cell hgb 0).trans rfl; have g1 := (blk_cell hgb 1).trans rfl; have g2 := blk_frozen hgb 0; have g3 := blk_frozen hgb 1; have g4 := (blk_cell (blk_alloc hgb (.cells (nilCells nrs.length) 42 (0, 0))) 0).trans rfl; have g5 := (blk_cell (blk_alloc hgb (.cells (nilCells nrs.length) 42 (0, 0))) 1).trans rfl; have g6 := blk_frozen (blk_alloc hgb (.cells (nilCells nrs.length) 42 (0, 0))) 0; have g7 := blk_frozen (blk_alloc hgb (.cells (nilCells nrs.length) 42 (0, 0))) 1; have g8 := blk_lt hgb) | (have hgb := blk_below (blk_new wa (.cells #[.slice none 0 0, .slice none 0 0] 78 (0, 0))) hbb; have g0 := (blk_cell hgb 0).trans rfl; have g1 := (blk_cell hgb 1).trans rfl; have g2 := blk_frozen hgb 0; have g3 := blk_frozen hgb 1; have g4 := (blk_cell (blk_alloc hgb (.cells (nilCells nrs.length) 42 (0, 0))) 0).trans rfl; have g5 := (blk_cell (blk_alloc hgb (.cells (nilCells nrs.length) 42 (0, 0))) 1).trans rfl; have g6 := blk_frozen (blk_alloc hgb (.cells (nilCells nrs.length) 42 (0, 0))) 0; have g7 := blk_frozen (blk_alloc hgb (.cells (nilCells nrs.length) 42 (0, 0))) 1; have g8 := blk_lt hgb) | skip)))
      all_goals
        go_wp2_with fail
        go_meet
        case rel =>
          have hbw : Below w3.heap.size w3 wb := by repeat (first | with_reducible exact Below.refl _ _ | with_reducible refine below_alloc ?_ _ | with_reducible refine below_drew ?_ | with_reducible refine below_thn ?_ hbb | with_reducible refine below_thn ?_ hba)
          have hBB := below_then HB3.out HB3.out.size hbw
          have hbx := blk_below K3.out hbw
          have hlw := blk_lt K3.out
          have hF0 := Kd.R_F (Kd.R_bound hra)
          have hcn := (Kd.R_reads' hra).2.1
          first
            | exact ⟨_, _, _, _, rfl, ⟨planA hbx (Kd.F_mono (Kd.F_below hF0 hbb) (fun k hk => by have := hk.2.2.1; omega)) hBB⟩, ⟨hcn⟩⟩
            | exact ⟨_, _, _, _, rfl, ⟨planB hbx (Kd.F_mono (Kd.F_below hF0 hbb) (fun k hk => by have := hk.2.2.1; omega)) hBB⟩, ⟨hcn⟩⟩
            | exact ⟨_, _, _, _, rfl, ⟨planC hbx hgb (Kd.F_mono (Kd.F_below (Kd.F_alloc hF0 _) hbb) (fun k hk => by have := hk.2.2.1; omega)) hBB (by omega)⟩, ⟨hcn⟩⟩
            | exact ⟨_, _, _, _, rfl, ⟨planC hbx hgb (Kd.F_mono (Kd.F_below hF0 hbb) (fun k hk => by have h1 := hk.2.1; have h2 := hk.2.2.1; simp at h1; omega)) hBB (by omega)⟩, ⟨hcn⟩⟩
    case rest =>
      clear tok1 HB3 K3 HRC HMK KEEP HNN
      obtain ⟨gp, GL, cn, An, rfl, HCO, HCN⟩ := hcut
      have HLL := Aside0.mk (leafL_len ot l nrs)
      have y0 : wc.cell? ⟨gp, 0, none⟩ = some (.slice An nrs.length cn) := (blk_cell HCO.out.pl 0).trans rfl
      go_wp2_with fail
      have HCO0 : Aside0 (CO w (box38 dk da A l.length c) (plan78 An nrs.length cn GL nrs.length) nrs An gp GL nrs.length 0 ((leafL ot l nrs).take 0) wc) := HCO
      clear y0 HCO
      go_loopw [50] (fun v50 wr => ∃ i : Nat, v50 = .int .i64 (i : Int) ∧ i ≤ nrs.length ∧ Aside0 (CO w (box38 dk da A l.length c) (plan78 An nrs.length cn GL nrs.length) nrs An gp GL nrs.length i ((leafL ot l nrs).take i) wr)) (fun v50 _ => nrs.length - (intOf v50).toNat)
      case atStart => exact ⟨0, rfl, by omega, HCO0⟩
      case round =>
        clear HCO0
        obtain ⟨i, rfl, hi, HCO⟩ := hrel
        obtain ⟨wo, rfl⟩ : ∃ wo : World, wo = wr := ⟨_, rfl⟩
        by_cases hin : i < nrs.length
        · have d1 : decide ((i : Int) < (nrs.length : Int)) = true := decide_eq_true (by omega)
          have d2 : decide (i < nrs.length) = true := decide_eq_true hin
          obtain ⟨ad, ea, z0⟩ := Kd.at_int (Kd.F_now HCO.out.nr) (i : Int) (by omega) (by omega)
          cases ea
          rw [Int.toNat_natCast] at z0
          have HSUC := Aside0.mk (leafL_succ (ot := ot) (l := l) hin)
          generalize rd nrs (i : Int) = nr at z0 HSUC
          obtain ⟨isb, hnm⟩ := name_d nr
          generalize nameD nr = nm at hnm HSUC
          have HNM := Aside0.mk hnm
          have p1 : (0 ≤ (i : Int)) = True := eq_true (by omega)
          have p2 : ((i : Int) < (nrs.length : Int)) = True := eq_true (by omega)
          have p3 : (i < nrs.length) = True := eq_true hin
          have HIN := Aside0.mk hin
          have HCI := Aside0.mk (HCO.out.start hin)
          clear hnm hin hi HCO
          go_wp2_with fail
          refine (mean_Name.calls 40 nr nm isb _ HNM.out).mono ?_
          rintro e w5 ⟨rfl, hb5⟩
          have HCI5 := Aside0.mk (HCI.out.below hb5)
          obtain ⟨base, hbase⟩ : ∃ base, wo.heap.size = base := ⟨_, rfl⟩
          rw [hbase] at HCI5
          clear hb5 HCI hbase z0
          have y2 : w5.cell? ⟨w.heap.size, 2, none⟩ = some (.slice A l.length c) := (blk_cell HCI5.out.bx 2).trans rfl
          go_wp2_with fail
          go_loopw [63] (fun v63 ws => ∃ (k : Nat) (v : Value), v63 = .int .i64 (k : Int) ∧ k ≤ l.length ∧ Aside0 (CI w (box38 dk da A l.length c) (plan78 (some ad) nrs.length cn GL nrs.length) nrs (some ad) gp GL nrs.length i ((leafL ot l nrs).take i) base v (bodyC (l.take k) nm) ws)) (fun v63 _ => l.length - (intOf v63).toNat)
          case atStart => exact ⟨0, _, rfl, by omega, HCI5⟩
          case round =>
            clear HCI5 y2
            obtain ⟨k, v, rfl, hk, HCI⟩ := hrel
            obtain ⟨wo2, rfl⟩ : ∃ wo2 : World, wo2 = wr := ⟨_, rfl⟩
            by_cases hlt : k < l.length
            · have d1 : decide ((k : Int) < (l.length : Int)) = true := decide_eq_true (by omega)
              have d2 : decide (k < l.length) = true := decide_eq_true hlt
              obtain ⟨ad2, B2, c2, B3, c3, ea, y0, y1, y2, y3, l2, g2, l3, g3⟩ := at_T72 HR.out (k : Int) (by omega) (by omega)
              have z0 := pw_cell_below HCI.out.bl y0
              have z1 := pw_cell_below HCI.out.bl y1
              have z2 := pw_cell_below HCI.out.bl y2
              have z3 := pw_cell_below HCI.out.bl y3
              have HN20 := Aside0.mk (HI.out.names l[k] (List.getElem_mem hlt))
              have HRO := Aside0.mk (RO.out.rule l[k] (List.getElem_mem hlt))
              have HSE := Aside0.mk (bodyC_succ (nm := nm) hlt rfl)
              have hgd : rd_T72 l (k : Int) = l[k] := by simp [rd_T72, List.getD_eq_getElem?_getD, hlt]
              rw [hgd] at z0 z1 z2 z3 l2 g2 l3 g3
              rw [Int.toNat_natCast] at z0 z1 z2 z3
              cases ea
              generalize l[k] = q at z0 z1 z2 z3 l2 g2 l3 g3 HN20 HRO HSE
              clear hgd y0 y1 y2 y3
              obtain ⟨⟨q0, q1⟩, ns, cs⟩ := q
              simp only at z0 z1 z2 z3 l2 g2 l3 g3 HN20
              have G2 := Aside0.mk g2
              have G3 := Aside0.mk g3
              have L2 := Aside0.mk l2
              have L3 := Aside0.mk l3
              have q1' : (0 ≤ (k : Int)) = True := eq_true (by omega)
              have q2' : ((k : Int) < (l.length : Int)) = True := eq_true (by omega)
              have q3' : (k < l.length) = True := eq_true (by omega)
              have HL := Aside0.mk hlt
              have HKK := Aside0.mk (show wrap64 ((k : Int) + 1) = ((k + 1 : Nat) : Int) by rw [IntWalk.wrap64_in _ (by have := HI.out.few; omega)]; rfl)
              clear hlt hk g2 l2 g3 l3
              go_wp2_with fail
              have HCI2 := Aside0.mk (HCI.out.below (below_alloc (Below.refl _ _) (.cells #[.int .i64 q0, .int .i64 q1, .slice B2 ns.length c2, .slice B3 cs.length c3] 72 (0, 0))))
              have HQ2 := Aside0.mk (blk_new wo2 (.cells #[.int .i64 q0, .int .i64 q1, .slice B2 ns.length c2, .slice B3 cs.length c3] 72 (0, 0)))
              obtain ⟨bq, hbq⟩ : ∃ bq, wo2.heap.size = bq := ⟨_, rfl⟩
              have HBQ := Aside0.mk (show base ≤ bq by rw [← hbq]; exact HCI.out.ba)
              rw [hbq] at HQ2
              try rw [hbq]
              have HCI3 : Aside0 (CI w (box38 dk da (some ad2) l.length c) (plan78 (some ad) nrs.length cn GL nrs.length) nrs (some ad) gp GL nrs.length i ((leafL ot l nrs).take i) base v (bodyC (l.take k) nm ++ namesC ⟨⟨q0, q1⟩, ns, cs⟩ nm (ns.take 0)) (wo2.alloc (.cells #[.int .i64 q0, .int .i64 q1, .slice B2 ns.length c2, .slice B3 cs.length c3] 72 (0, 0)))) := ⟨by rw [List.take_zero]; simpa [namesC] using HCI2.out⟩
              clear hbq HCI2
              go_loopw [70] (fun v70 wt => ∃ (j : Nat) (v : Value), v70 = .int .i64 (j : Int) ∧ j ≤ ns.length ∧ Aside0 (CI w (box38 dk da (some ad2) l.length c) (plan78 (some ad) nrs.length cn GL nrs.length) nrs (some ad) gp GL nrs.length i ((leafL ot l nrs).take i) base v (bodyC (l.take k) nm ++ namesC ⟨⟨q0, q1⟩, ns, cs⟩ nm (ns.take j)) wt) ∧ Aside0 (wt.heap[bq]? = some (.cells #[.int .i64 q0, .int .i64 q1, .slice B2 ns.length c2, .slice B3 cs.length c3] 72 (0, 0)))) (fun v70 _ => ns.length - (intOf v70).toNat)
              case atStart => exact ⟨0, v, rfl, by omega, HCI3, HQ2⟩
              case round =>
                clear HCI HCI3 HQ2 z0 z1 z2 z3
                obtain ⟨j, v', rfl, hj, HCI, HQ⟩ := hrel
                by_cases hjl : j < ns.length
                · have e0 : decide ((j : Int) < (ns.length : Int)) = true := decide_eq_true (by omega)
                  have e1 : decide (j < ns.length) = true := decide_eq_true hjl
                  obtain ⟨ad3, ea, hx⟩ := Kd.at_string (Kd.C_below G2.out HCI.out.bl) (j : Int) (by omega) (by omega)
                  cases ea
                  have hgd : rdOf ByteArray.empty ns (j : Int) = ns.getD j ByteArray.empty := by simp [rdOf]
                  rw [hgd, Int.toNat_natCast] at hx
                  obtain ⟨s, hs⟩ : ∃ s, ns.getD j ByteArray.empty = s := ⟨_, rfl⟩
                  rw [hs] at hx
                  have HNS := Aside0.mk (namesC_succ (q := ⟨⟨q0, q1⟩, ns, cs⟩) (nm := nm) hjl hs)
                  have r1' : (0 ≤ (j : Int)) = True := eq_true (by omega)
                  have r2' : ((j : Int) < (ns.length : Int)) = True := eq_true (by omega)
                  have r3' : (j < ns.length) = True := eq_true hjl
                  have HJ := Aside0.mk hjl
                  have HJW := Aside0.mk (show wrap64 ((j : Int) + 1) = ((j + 1 : Nat) : Int) by rw [IntWalk.wrap64_in _ (by have := HN20.out; omega)]; rfl)
                  clear hgd hs hjl hj
                  by_cases hsn : s.toList = nm.toList
                  · have t1 : (s.toList == nm.toList) = true := beq_iff_eq.mpr hsn
                    have HNS2 := Aside0.mk (HNS.out.trans (by rw [if_pos hsn]))
                    clear hsn HNS
                    go_wp2_with fail
                    obtain ⟨cur, hcur⟩ : ∃ cur, bodyC (l.take k) nm ++ namesC ⟨⟨q0, q1⟩, ns, cs⟩ nm (ns.take j) = cur := ⟨_, rfl⟩
                    have HCL := Aside0.mk (show cur.length ≤ 60000 by
                      have h1 := body_len nm (l.take k) (fun r hr => RO.out.rule r (List.mem_of_mem_take hr))
                      have h2 := names_len HRO.out nm (ns.take j)
                      have h3 := RO.out.few
                      rw [List.length_take] at h1 h2
                      have h4 := HN20.out
                      rw [← hcur, List.length_append]
                      omega)
                    rw [hcur] at HCI
                    have HCU := Aside0.mk hcur
                    clear hcur
                    obtain ⟨Av, cv, rfl⟩ := Kd.R_slice HCI.out.row
                    have HRL := Aside0.mk (ruleC_len HRO.out)
                    have HRU := Aside0.mk (rule_is HRO.out)
                    obtain ⟨ru, hru⟩ : ∃ ru, ruleC ⟨⟨q0, q1⟩, ns, cs⟩ = ru := ⟨_, rfl⟩
                    rw [hru] at HRL HRU HNS2
                    have HCID := Aside0.mk (HCI.out.below (below_drew (Below.refl _ _)))
                    have A0 := Aside0.mk HCI.out.pl
                    have x0 : wr.cell? ⟨GL, i, none⟩ = some (.slice Av cur.length cv) := HCI.out.cells.1
                    have p1 : (0 ≤ (i : Int)) = True := eq_true (by omega)
                    have p2 : ((i : Int) < (nrs.length : Int)) = True := eq_true (by have := HIN.out; omega)
                    have p3 : (i < nrs.length) = True := eq_true HIN.out
                    have HNE1 := Aside0.mk (show gp ≠ GL from fun h => HCI.out.od.2.2.1 h.symm)
                    have HNE2 := Aside0.mk (show bq ≠ GL by have := HCI.out.od.2.2.2.1; have := HBQ.out; omega)
                    have HVN : Aside0 (∀ g, g < base → some g ≠ (Value.slice Av cur.length cv).ownBlock) := ⟨fun g hg e => by have := Kd.R_base HCI.out.row g e.symm; omega⟩
                    have KEEP : Aside0 (∀ W : World, W.heap[gp]? = some (.cells (plan78 (some ad) nrs.length cn GL nrs.length) 78 (0, 0)) → W.heap[bq]? = some (.cells #[.int .i64 q0, .int .i64 q1, .slice (some ad3) ns.length c2, .slice B3 cs.length c3] 72 (0, 0)) → W.cell? ⟨gp, 1, none⟩ = some (.slice (some ⟨GL, 0, none⟩) nrs.length nrs.length) ∧ W.cell? ⟨bq, 0, none⟩ = some (.int .i64 q0) ∧ W.cell? ⟨bq, 1, none⟩ = some (.int .i64 q1) ∧ W.cell? ⟨bq, 2, none⟩ = some (.slice (some ad3) ns.length c2) ∧ W.cell? ⟨bq, 3, none⟩ = some (.slice B3 cs.length c3)) :=
                      ⟨fun W h1 h2 => ⟨(blk_cell h1 1).trans rfl, (blk_cell h2 0).trans rfl, (blk_cell h2 1).trans rfl, (blk_cell h2 2).trans rfl, (blk_cell h2 3).trans rfl⟩⟩
                    clear hru
                    obtain ⟨y0, z0, z1, z2, z3⟩ := KEEP.out _ A0.out HQ.out
                    go_region_law (first
                        | ((with_reducible refine gate_step (N := 86) rfl ?_); go_simp; go_at_call 24; refine (compile_rule.calls 20 q0 q1 (some ad3) c2 ns B3 c3 cs ru _ (Kd.C_below G2.out HCID.out.bl) L2.out (Kd.C_below G3.out HCID.out.bl) L3.out HRU.out).mono ?_; rintro e w2 ⟨v86, rfl, hr2, hb2⟩; obtain ⟨A6, c6, rfl⟩ := Kd.R_slice hr2; have HR2 := Aside0.mk hr2; have HCI2 := Aside0.mk (HCID.out.below hb2); have k2a := blk_below (blk_drew A0.out) hb2; have k2b := blk_below (blk_drew HQ.out) hb2; have y2 := (KEEP.out _ k2a k2b).1; have x1b : w2.cell? ⟨GL, i, none⟩ = some (.slice Av cur.length cv) := HCI2.out.cells.1; clear hr2 hb2)
                        | ((with_reducible refine gate_step (N := 87) rfl ?_); refine Kd.R_append_rows_step k84 (w0 := w2) base (wanted_none rfl) (.tmp 84) (.tmp 86) 42 84 (.agg #[(.int .u16 0), (.int .u8 0), (.int .u8 0), (.int .u32 0)]) 8 rfl Try.underlying42 info84 rfl (by decide) (by decide) (.slice Av cur.length cv) cur ru A6 _ c6 (fun k => k ≠ GL) (fun _ => False) rfl rfl HCI2.out.row (Kd.R_reads' HR2.out).2.2 (fun _ _ h => h) (fun _ h => h.elim) ?aF (Below.refl _ _) HCI2.out.ba ?aL ?_; (case aF => intro k hk; have := HCI2.out.ba; have := HCI2.out.od.2.2.2.1; omega); (case aL => have := HCL.out; have := HRL.out; omega); intro v5 w5 ho5 hb5 hg5 hat5; obtain ⟨cur5, hc5⟩ : ∃ c, cur ++ ru = c := ⟨_, rfl⟩; rw [hc5] at ho5; obtain ⟨A5, c5, rfl⟩ := Kd.R_slice ho5; have HC5 := Aside0.mk hc5; have HCI5 := Aside0.mk (HCI2.out.put hg5 ho5); have k5a := gr_blk hg5 k2a (HVN.out gp HCI2.out.od.2.2.2.2.1); have k5b := gr_blk hg5 k2b (Kd.R_ne HCI2.out.row k2b (by decide)); have x5 : w5.cell? ⟨GL, i, none⟩ = some (.slice Av cur.length cv) := (by obtain ⟨cs, l1, l2, l3, l4, l5⟩ := HCI2.out.lv; exact (blk_cell (gr_blk hg5 l1 (HVN.out GL HCI2.out.od.2.2.2.1)) i).trans l4); have f5 : w5.frozen? ⟨GL, i, none⟩ = false := (by obtain ⟨cs, l1, l2, l3, l4, l5⟩ := HCI2.out.lv; exact blk_frozen (gr_blk hg5 l1 (HVN.out GL HCI2.out.od.2.2.2.1)) i); have y5 := (KEEP.out _ k5a k5b).1; clear ho5 hb5 hg5 hat5 hc5))
                    all_goals
                      go_wp2_with fail
                      rw [HJW.out]
                      refine ⟨⟨j + 1, _, rfl, by have := HJ.out; omega, ⟨by rw [HNS2.out, ← List.append_assoc, HCU.out, HC5.out]; exact HCI5.out⟩, ⟨blk_far k5b (p := ⟨GL, i, none⟩) HNE2.out _⟩⟩, ?_⟩
                      have := HJ.out
                      simp only [intOf]
                      omega
                  · have t1 : (s.toList == nm.toList) = false := beq_eq_false_iff_ne.mpr hsn
                    have HNS2 := Aside0.mk (HNS.out.trans (by rw [if_neg hsn, List.append_nil]))
                    clear hsn HNS
                    go_wp2_with fail
                    rw [HJW.out]
                    refine ⟨⟨j + 1, v', rfl, by have := HJ.out; omega, ⟨by rw [HNS2.out]; exact HCI.out⟩, HQ⟩, ?_⟩
                    have := HJ.out
                    simp only [intOf]
                    omega
                · have e0 : decide ((j : Int) < (ns.length : Int)) = false := decide_eq_false (by omega)
                  have e1 : decide (j < ns.length) = false := decide_eq_false hjl
                  obtain rfl : j = ns.length := by omega
                  clear hjl hj
                  go_wp2_with fail
                  rw [HKK.out]
                  refine ⟨⟨k + 1, v', rfl, by have := HL.out; omega, ⟨by rw [HSE.out]; have := HCI.out; rw [List.take_length] at this; exact this⟩⟩, ?_⟩
                  have := HL.out
                  simp only [intOf]
                  omega
            · have d1 : decide ((k : Int) < (l.length : Int)) = false := decide_eq_false (by omega)
              have d2 : decide (k < l.length) = false := decide_eq_false hlt
              obtain rfl : k = l.length := by omega
              have HCI2 : Aside0 (CI w (box38 dk da A l.length c) (plan78 (some ad) nrs.length cn GL nrs.length) nrs (some ad) gp GL nrs.length i ((leafL ot l nrs).take i) base v (bodyC l nm) wo2) := ⟨by have := HCI.out; rw [List.take_length] at this; exact this⟩
              clear hlt hk HCI
              go_wp2_with fail
              obtain ⟨cur, hcur⟩ : ∃ cur, bodyC l nm = cur := ⟨_, rfl⟩
              have HCL := Aside0.mk (show cur.length ≤ 60000 by
                have h1 := body_len nm l RO.out.rule
                have h3 := RO.out.few
                rw [← hcur]
                omega)
              rw [hcur] at HCI2
              have HCU := Aside0.mk hcur
              clear hcur
              obtain ⟨Av, cv, rfl⟩ := Kd.R_slice HCI2.out.row
              have HCID := Aside0.mk (HCI2.out.below (below_drew (Below.refl _ _)))
              have A0 := Aside0.mk HCI2.out.pl
              have x0 : wo2.cell? ⟨GL, i, none⟩ = some (.slice Av cur.length cv) := HCI2.out.cells.1
              have x0a : ∀ o, (wo2.alloc o).cell? ⟨GL, i, none⟩ = some (.slice Av cur.length cv) := fun o => (HCI2.out.below (below_alloc (Below.refl _ _) o)).cells.1
              have p1 : (0 ≤ (i : Int)) = True := eq_true (by omega)
              have p2 : ((i : Int) < (nrs.length : Int)) = True := eq_true (by have := HIN.out; omega)
              have p3 : (i < nrs.length) = True := eq_true HIN.out
              have HNE1 := Aside0.mk (show gp ≠ GL from fun h => HCI2.out.od.2.2.1 h.symm)
              have HVN : Aside0 (∀ g, g < base → some g ≠ (Value.slice Av cur.length cv).ownBlock) := ⟨fun g hg e => by have := Kd.R_base HCI2.out.row g e.symm; omega⟩
              have KEEP : Aside0 (∀ W : World, W.heap[gp]? = some (.cells (plan78 (some ad) nrs.length cn GL nrs.length) 78 (0, 0)) → W.cell? ⟨gp, 1, none⟩ = some (.slice (some ⟨GL, 0, none⟩) nrs.length nrs.length)) := ⟨fun W h1 => (blk_cell h1 1).trans rfl⟩
              have HIW := Aside0.mk (show wrap64 ((i : Int) + 1) = ((i + 1 : Nat) : Int) by have := HIN.out; have := HN30.out; rw [IntWalk.wrap64_in _ (by omega)]; rfl)
              have y0 : wo2.cell? ⟨gp, 1, none⟩ = some (.slice (some ⟨GL, 0, none⟩) nrs.length nrs.length) := KEEP.out _ A0.out
              have y0a : ∀ o, (wo2.alloc o).cell? ⟨gp, 1, none⟩ = some (.slice (some ⟨GL, 0, none⟩) nrs.length nrs.length) := fun o => KEEP.out _ (blk_alloc A0.out o)
              go_region_law (first | ((with_reducible refine gate_step (N := 102) rfl ?_); refine Kd.R_append_step k84 (w0 := wo2.drew) (W := wo2.drew) base (wanted_none rfl) (.tmp 98) (.tmp 101) 42 84 (.agg #[(.int .u16 0), (.int .u8 0), (.int .u8 0), (.int .u32 0)]) 8 rfl Try.underlying42 info84 rfl (by decide) (by decide) (.slice Av cur.length cv) cur ⟨6, 0, 0, ot⟩ [.int .u16 6, .int .u8 0, .int .u8 0, .int .u32 ot] (fun k => k ≠ GL) (fun _ => False) rfl rfl (k84_mkM _ _ _ ⟨6, 0, 0, ot⟩) (fun _ h => h.elim) ?aF HCID.out.row (Below.refl _ _) HCID.out.ba ?aL ?_; (case aF => intro k hk; have := HCID.out.ba; have := HCID.out.od.2.2.2.1; omega); (case aL => have := HCL.out; omega); intro v5 w5 ho5 hb5 hg5 hat5; obtain ⟨cur5, hc5⟩ : ∃ c, cur ++ [(⟨6, 0, 0, ot⟩ : S84)] = c := ⟨_, rfl⟩; rw [hc5] at ho5; obtain ⟨A5, c5, rfl⟩ := Kd.R_slice ho5; have HC5 := Aside0.mk hc5; have HCI5 := Aside0.mk (HCID.out.put hg5 ho5); have k5a := gr_blk hg5 HCID.out.pl (HVN.out gp HCID.out.od.2.2.2.2.1); have x5 : w5.cell? ⟨GL, i, none⟩ = some (.slice Av cur.length cv) := (by obtain ⟨cs, l1, l2, l3, l4, l5⟩ := HCID.out.lv; exact (blk_cell (gr_blk hg5 l1 (HVN.out GL HCID.out.od.2.2.2.1)) i).trans l4); have f5 : w5.frozen? ⟨GL, i, none⟩ = false := (by obtain ⟨cs, l1, l2, l3, l4, l5⟩ := HCID.out.lv; exact blk_frozen (gr_blk hg5 l1 (HVN.out GL HCID.out.od.2.2.2.1)) i); have y5 := KEEP.out _ k5a; clear ho5 hb5 hg5 hat5 hc5))
              all_goals
                go_wp2_with fail
                rw [HIW.out]
                have HEQ : Aside0 (cur5 = leafR ot l nm) := ⟨by rw [← HC5.out, ← HCU.out]; rfl⟩
                have HFI := Aside0.mk (HCI5.out.finish (by rw [← HC5.out]; simp) (by rw [List.length_take, HLL.out]; have := HIN.out; omega))
                refine ⟨⟨i + 1, rfl, by have := HIN.out; omega, ⟨by rw [HSUC.out, ← HEQ.out]; exact HFI.out⟩⟩, ?_⟩
                have := HIN.out
                simp only [intOf]
                omega
        · have d1 : decide ((i : Int) < (nrs.length : Int)) = false := decide_eq_false (by omega)
          have d2 : decide (i < nrs.length) = false := decide_eq_false hin
          obtain rfl : i = nrs.length := by omega
          clear hin hi
          have HPR := Aside0.mk (progR_is HKL.out HOT.out HNR.out)
          have HPO : Aside0 (PlanOk nrs (leafL ot l nrs) ot) := ⟨by
            have h := plan_ok RO.out
            rw [HOT.out] at h
            unfold leavesR at h
            rw [HNR.out] at h
            exact h⟩
          have HTK : Aside0 (CO w (box38 dk da A l.length c) (plan78 An nrs.length cn GL nrs.length) nrs An gp GL nrs.length nrs.length (leafL ot l nrs) wo) := ⟨by have := HCO.out; rw [← HLL.out, List.take_length, HLL.out] at this; exact this⟩
          clear HCO
          go_upto_region 24 with fail
          obtain ⟨w6, hw6, ho6, hb6⟩ := head_R wo kl
          rw [hw6]
          clear hw6
          have HT6 := Aside0.mk (HTK.out.below hb6)
          have HSZ := Aside0.mk hb6.size
          have HWS := Aside0.mk HTK.out.bl.size
          have HO6 := Aside0.mk ho6
          clear ho6 hb6 HTK
          have y0 : w6.cell? ⟨gp, 0, none⟩ = some (.slice An nrs.length cn) := (blk_cell HT6.out.pl 0).trans rfl
          have y1 : w6.cell? ⟨gp, 1, none⟩ = some (.slice (some ⟨GL, 0, none⟩) nrs.length nrs.length) := (blk_cell HT6.out.pl 1).trans rfl
          by_cases hn0 : nrs.length = 0
          rotate_left
          · have g1 : decide ((0 : Int) < (nrs.length : Int)) = true := decide_eq_true (by omega)
            have g2 : decide (0 < nrs.length) = true := decide_eq_true (by omega)
            have HN0 := Aside0.mk (show 0 < nrs.length by omega)
            have HPR2 := Aside0.mk (HPR.out.trans (by rw [if_neg hn0]))
            clear hn0 HPR
            go_wp2_with fail
            refine (part_calls HPO.out HN0.out HT6.out.nr HCN.out (HT6.out.rows HLL.out (by have := HN30.out; omega))).mono ?_
            rintro e w7 ⟨v122, rfl, hr7, hb7⟩
            obtain ⟨pc, hpc⟩ : ∃ pc, partC nrs (leafL ot l nrs) 40 0 nrs.length = pc := ⟨_, rfl⟩
            have HPC := Aside0.mk (show pc.length ≤ 1800000 by
              have h1 := (part_len HPO.out 40 0 nrs.length HN0.out (Nat.le_refl _) (by have := HN30.out; omega)).2
              rw [hpc] at h1
              have := HN30.out
              omega)
            rw [hpc] at hr7 HPR2
            obtain ⟨A7, c7, rfl⟩ := Kd.R_slice hr7
            have HR7 := Aside0.mk hr7
            have HO7 := Aside0.mk (Kd.R_below (Kd.R_lower HO6.out HWS.out) hb7)
            have HB7 := Aside0.mk (below_thn HT6.out.bl hb7)
            clear hr7 hb7 hpc
            go_upto_region 28 with (first
              | ((with_reducible refine gate_dst (N := 123) rfl ?_); refine Kd.R_append_rows k84 (w0 := w) w.heap.size rfl (.tmp 117) (.tmp 122) 42 84 (.agg #[(.int .u16 0), (.int .u8 0), (.int .u8 0), (.int .u32 0)]) 8 rfl Try.underlying42 info84 rfl (by decide) (by decide) (.slice (some ⟨wo.heap.size, 0, none⟩) 4 4) (headC kl) pc A7 _ c7 (fun _ => True) (fun _ => False) rfl rfl HO7.out (Kd.R_reads' HR7.out).2.2 (fun _ _ h => h) (fun _ h => h.elim) (fun _ _ => trivial) HB7.out HB7.out.size ?aL ?_; (case aL => have := HPC.out; simp only [headC, List.length_cons, List.length_nil]; omega); intro v8 w8 ho8 hb8 hg8 hat8; rw [← HPR2.out] at ho8; clear hg8 hat8))
            obtain ⟨A8, c8, rfl⟩ := Kd.R_slice ho8
            have HO8 := Aside0.mk ho8
            have HB8 := Aside0.mk hb8
            obtain ⟨pl, hpl⟩ : ∃ pl, progR dk da l = pl := ⟨_, rfl⟩
            rw [hpl] at HO8
            rw [hpl]
            clear ho8 hb8
            by_cases h4 : 4096 < pl.length
            · have q1 : decide ((4096 : Int) < (pl.length : Int)) = true := decide_eq_true (by omega)
              have q2 : decide (4096 < pl.length) = true := decide_eq_true h4
              have HPL := Aside0.mk hpl
              have H4 := Aside0.mk h4
              clear hpl h4
              go_wp2_with fail
              go_ret2
              exact ⟨HB8.out, fun h => absurd rfl h, fun _ => Or.inr ⟨by rw [HPL.out]; exact H4.out, rfl⟩⟩
            · have q1 : decide ((4096 : Int) < (pl.length : Int)) = false := decide_eq_false (by omega)
              have q2 : decide (4096 < pl.length) = false := decide_eq_false h4
              have HPL := Aside0.mk hpl
              have H4 := Aside0.mk (show pl.length ≤ 4096 by omega)
              clear hpl h4
              go_wp2_with fail
              go_ret2
              exact ⟨HB8.out, fun h => absurd rfl h, fun _ => Or.inl ⟨by rw [HPL.out]; exact H4.out, _, rfl, by rw [HPL.out]; exact HO8.out⟩⟩
          · have g1 : decide ((0 : Int) < (nrs.length : Int)) = false := decide_eq_false (by omega)
            have g2 : decide (0 < nrs.length) = false := decide_eq_false (by omega)
            have HPR2 := Aside0.mk (HPR.out.trans (by rw [if_pos hn0]))
            have HO7 := Aside0.mk (Kd.R_lower HO6.out HWS.out)
            clear hn0 HPR
            go_upto_region 28 with (first
              | ((with_reducible refine gate_dst (N := 128) rfl ?_); refine Kd.R_append k84 (w0 := w) (W := w6) w.heap.size rfl (.tmp 124) (.tmp 127) 42 84 (.agg #[(.int .u16 0), (.int .u8 0), (.int .u8 0), (.int .u32 0)]) 8 rfl Try.underlying42 info84 rfl (by decide) (by decide) (.slice (some ⟨wo.heap.size, 0, none⟩) 4 4) (headC kl) ⟨6, 0, 0, ot⟩ [.int .u16 6, .int .u8 0, .int .u8 0, .int .u32 ot] (fun _ => True) (fun _ => False) rfl rfl (k84_mkM _ _ _ ⟨6, 0, 0, ot⟩) (fun _ h => h.elim) (fun _ _ => trivial) HO7.out HT6.out.bl HT6.out.bl.size ?aL ?_; (case aL => simp only [headC, List.length_cons, List.length_nil]; omega); intro v8 w8 ho8 hb8 hg8 hat8; rw [← HPR2.out] at ho8; clear hg8 hat8))
            obtain ⟨A8, c8, rfl⟩ := Kd.R_slice ho8
            have HO8 := Aside0.mk ho8
            have HB8 := Aside0.mk hb8
            obtain ⟨pl, hpl⟩ : ∃ pl, progR dk da l = pl := ⟨_, rfl⟩
            rw [hpl] at HO8
            rw [hpl]
            clear ho8 hb8
            by_cases h4 : 4096 < pl.length
            · have q1 : decide ((4096 : Int) < (pl.length : Int)) = true := decide_eq_true (by omega)
              have q2 : decide (4096 < pl.length) = true := decide_eq_true h4
              have HPL := Aside0.mk hpl
              have H4 := Aside0.mk h4
              clear hpl h4
              go_wp2_with fail
              go_ret2
              exact ⟨HB8.out, fun h => absurd rfl h, fun _ => Or.inr ⟨by rw [HPL.out]; exact H4.out, rfl⟩⟩
            · have q1 : decide ((4096 : Int) < (pl.length : Int)) = false := decide_eq_false (by omega)
              have q2 : decide (4096 < pl.length) = false := decide_eq_false h4
              have HPL := Aside0.mk hpl
              have H4 := Aside0.mk (show pl.length ≤ 4096 by omega)
              clear hpl h4
              go_wp2_with fail
              go_ret2
              exact ⟨HB8.out, fun h => absurd rfl h, fun _ => Or.inl ⟨by rw [HPL.out]; exact H4.out, _, rfl, by rw [HPL.out]; exact HO8.out⟩⟩
end Go.Proofs.Ytidnojkijfinaaa.Fns
