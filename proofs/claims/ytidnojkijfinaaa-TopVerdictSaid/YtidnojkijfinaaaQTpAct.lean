/- Part of the proof of TopVerdictSaid. -/
import Derived.Test.YtidnojkijfinaaaQTpRead
namespace Go.Proofs.Ytidnojkijfinaaa.Fns
open Go.RowKit Go.Proofs.YtidnojkijfinaaaW.PrintWords Go.Proofs.YtidnojkijfinaaaW.PrintLast Go.Proofs.YtidnojkijfinaaaW.PrintMore
attribute [local go_sem] max2_int min2_int max_two min_two max_three min_three max_four min_four
set_option linter.unusedVariables false
set_option linter.unusedSimpArgs false
def kindOf (s : ByteArray) : Int := (parse_kind.f s).getD 0
theorem kind_is (s : ByteArray) : parse_kind.f s = some (kindOf s) := by
  have h : ∃ r, parse_kind.f s = some r := by
    unfold parse_kind.f
    repeat' split
    all_goals exact ⟨_, rfl⟩
  obtain ⟨r, h⟩ := h
  rw [kindOf, h]
  rfl
def actR (l : List S68) (room : Bool) (n : Nat) : PR S35 :=
  if (l.getD n z68).f0 = 1 ∧ kindOf (l.getD n z68).f2 ≠ 0 then
    if room = true then
      if kindOf (l.getD n z68).f2 = 3 ∨ kindOf (l.getD n z68).f2 = 4 ∨ kindOf (l.getD n z68).f2 = 6 then
        if (l.getD (n + 1) z68).f0 = 2 then
          (if 65535 < (l.getD (n + 1) z68).f3 then .error (6, (l.getD (n + 1) z68).f1) else .ok (⟨kindOf (l.getD n z68).f2, wrap64 (l.getD (n + 1) z68).f3⟩, n + 2))
        else .error (7, (l.getD (n + 1) z68).f1)
      else .ok (⟨kindOf (l.getD n z68).f2, 0⟩, n + 1)
    else .error (4, (l.getD n z68).f1)
  else .error (7, (l.getD n z68).f1)
def enc35 : World → Value → S35 → Prop := fun _ v a => v = .agg #[.int .i64 a.f0, .int .i64 a.f1]
set_option maxHeartbeats 16000000 in
set_option maxRecDepth 100000 in
theorem pact_calls (room : Bool) (w : World) (g : Nat) (A : Option Addr) (c : Nat) (l : List S68) (n : Nat) (h : Rdr w g A c l n) :
    Calls Try.prog 18 #[.pointer (some ⟨g, 0, none⟩), .bool room] w fun e w' => Parsed enc35 w g A c l (actR l room n) e w' := by
  have H := Aside0.mk h
  have hu35 := Try.underlying35
  have hu68 := Try.underlying68
  obtain ⟨r, hr⟩ : ∃ r, actR l room n = r := ⟨_, rfl⟩
  have HTB := Aside0.mk hr
  obtain ⟨t, htt⟩ : ∃ t, l.getD n z68 = t := ⟨_, rfl⟩
  have HTT := Aside0.mk htt
  unfold actR at hr
  rw [htt] at hr
  obtain ⟨tk, ta, ts, tn⟩ := t
  simp only at hr
  obtain ⟨k, hk⟩ : ∃ k, kindOf ts = k := ⟨_, rfl⟩
  have HKD := Aside0.mk (show parse_kind.f ts = some k by rw [kind_is, hk])
  rw [hk] at hr
  have HRR := Aside0.mk hr
  have HNX := Aside0.mk (fun (e : tk = 1) => h.next (by rw [htt, e]; show (1 : Int) ≠ 4; decide))
  clear hr hk htt h
  go_enter Try.func18, Try.ntmps18
  go_wp2_with fail
  refine (now_calls _ g A c l n (H.out.grown (below_alloc (Below.refl _ _) _))).mono ?_
  rintro e w1 ⟨rfl, hb⟩
  rw [HTT.out]
  have HB := Aside0.mk (below_then (below_alloc (Below.refl w.heap.size w) _) (by simp) hb)
  have H1 := Aside0.mk ((H.out.grown (below_alloc (Below.refl _ _) _)).grown hb)
  have K1 := Aside0.mk (blk_below (blk_new w (a35 0 0)) hb)
  clear hb
  unfold S68.cells
  simp only
  go_wp2_with fail
  refine (parse_kind.calls ts k _ HKD.out).mono ?_
  rintro e w2 ⟨rfl, hdr⟩
  have hd := hdr.below
  have M1 := Aside0.mk (blk_below (blk_new w1 (.cells #[.int .i64 tk, .int .i64 ta, .string ts, .int .u64 tn] 68 (0, 0))) hd)
  have K2 := Aside0.mk (blk_below (blk_alloc K1.out (.cells #[.int .i64 tk, .int .i64 ta, .string ts, .int .u64 tn] 68 (0, 0))) hd)
  have H2 := Aside0.mk ((H1.out.grown (below_alloc (Below.refl _ _) (.cells #[.int .i64 tk, .int .i64 ta, .string ts, .int .u64 tn] 68 (0, 0)))).grown hd)
  have G2 := Aside0.mk (gr_below (gr_alloc (gr_below (gr_refl w (some g)) HB.out) (.cells #[.int .i64 tk, .int .i64 ta, .string ts, .int .u64 tn] 68 (0, 0))) hd)
  have N0 := Aside0.mk (show w.heap.size ≠ g by have := blk_lt H.out.blk; omega)
  have N1 := Aside0.mk (show w.heap.size < w2.heap.size from blk_lt K2.out)
  clear hd hdr HB H1 K1
  have m0 : ∀ o, (w2.alloc o).cell? ⟨w1.heap.size, 0, none⟩ = some (.int .i64 tk) := fun o => (blk_cell (blk_alloc M1.out o) 0).trans rfl
  have x1 : ∀ o, (w2.alloc o).cell? ⟨g, 1, none⟩ = some (.int .i64 (n : Int)) := fun o => (blk_cell (blk_alloc H2.out.blk o) 1).trans rfl
  have f1 : ∀ o, (w2.alloc o).frozen? ⟨g, 1, none⟩ = false := fun o => blk_frozen (blk_alloc H2.out.blk o) 1
  have hrr := HRR.out
  by_cases hc : tk = 1 ∧ k ≠ 0
  rotate_left
  · rw [if_neg hc] at hrr
    subst hrr
    by_cases h1 : tk = 1
    · have h2 : k = 0 := by
        by_cases h2 : k = 0
        · exact h2
        · exact absurd ⟨h1, h2⟩ hc
      have e1 : (tk != 1) = false := by simpa using h1
      have e2 : (k == 0) = true := by simpa using h2
      clear hc h1 h2 HRR HNX
      go_wp2_with fail
      refine (fail_calls 7 _ g A c l n (H2.out.grown (below_alloc (Below.refl _ _) _))).mono ?_
      rintro e w3 ⟨rfl, hb⟩
      refine ⟨rfl, ?_⟩
      rw [HTB.out]
      refine ⟨by rw [HTT.out]; rfl, gr_below (gr_alloc G2.out _) hb⟩
    · have e1 : (tk != 1) = true := by simpa using h1
      clear hc h1 HRR HNX
      go_wp2_with fail
      refine (fail_calls 7 _ g A c l n (H2.out.grown (below_alloc (Below.refl _ _) _))).mono ?_
      rintro e w3 ⟨rfl, hb⟩
      refine ⟨rfl, ?_⟩
      rw [HTB.out]
      refine ⟨by rw [HTT.out]; rfl, gr_below (gr_alloc G2.out _) hb⟩
  · rw [if_pos hc] at hrr
    obtain ⟨h1, h2⟩ := hc
    have e1 : (tk != 1) = false := by simpa using h1
    have e2 : (k == 0) = false := by simpa using h2
    have HN := Aside0.mk (HNX.out h1)
    clear h1 h2 HRR HNX
    cases room with
    | false =>
      rw [if_neg (by simp)] at hrr
      subst hrr
      go_wp2_with fail
      refine (fail_calls 4 _ g A c l n (H2.out.grown (below_alloc (Below.refl _ _) _))).mono ?_
      rintro e w3 ⟨rfl, hb⟩
      refine ⟨rfl, ?_⟩
      rw [HTB.out]
      refine ⟨by rw [HTT.out]; rfl, gr_below (gr_alloc G2.out _) hb⟩
    | true =>
      rw [if_pos rfl] at hrr
      have HRR := Aside0.mk hrr
      have HKW := Aside0.mk (show wrap64 ((n : Int) + 1) = ((n + 1 : Nat) : Int) by have := H.out.lt; have := H.out.short; rw [IntWalk.wrap64_in _ (by omega)]; rfl)
      clear hrr
      by_cases h3 : k = 3 ∨ k = 4 ∨ k = 6
      rotate_left
      · have hrr := HRR.out
        rw [if_neg h3] at hrr
        subst hrr
        have d3 : (k != 3) = true := by simp; omega
        have d4 : (k != 4) = true := by simp; omega
        have d6 : (k != 6) = true := by simp; omega
        clear h3 HRR
        have N2 := Aside0.mk (show w2.heap.size ≠ g by have := blk_lt H2.out.blk; omega)
        have HI := Aside0.mk (info35 k 0)
        go_wp2_with (first
          | ((with_reducible refine gate_dst (N := 48) rfl ?_); refine wpList_load_row rfl 35 (.tmp 6) rfl w2.heap.size rfl 35 #[.int .i64 k, .int .i64 0] (0, 0) _ (blk_far (blk_new w2 (a35 k 0)) N2.out _) Try.underlying35 rfl HI.out ?_)
          | ((with_reducible refine gate_store (p := 4) rfl ?_); refine store_all (ty := 35) (p := 4) (y := .tmp 48) (b := w.heap.size) (old := #[.int .i64 0, .int .i64 0]) (cells := #[.int .i64 k, .int .i64 0]) rfl rfl rfl rfl rfl (blk_far (blk_alloc K2.out _) N0.out _) rfl HI.out (by simp [Value.oneCell']) ?_; intro w3 hk3 hg3; have HK3 := Aside0.mk hk3; have HG3 := Aside0.mk hg3; clear hk3 hg3))
        rw [HKW.out] at HG3
        have hgw := (gr_set (gr_alloc G2.out (a35 k 0)) 1 (.int .i64 ((n + 1 : Nat) : Int))).andThen HG3.out (fun j hj => .inl (by cases hj; exact Nat.le_refl _))
        have hbg := gr_blk HG3.out (blk_put (blk_alloc H2.out.blk (a35 k 0)) 1 (.int .i64 ((n + 1 : Nat) : Int)) rfl) (fun e => N0.out (by cases e; rfl))
        refine bodyPost_ret (results_cell_row rfl _ _ w.heap.size 35 #[.int .i64 k, .int .i64 0] (0, 0) _ rfl HK3.out Try.underlying35 rfl HI.out) rfl ?_
        rw [HTB.out]
        exact ⟨_, rfl, rfl, H.out.at_ hgw hbg HN.out, hgw⟩
      · have HK3 := Aside0.mk h3
        have hrr := HRR.out
        rw [if_pos h3] at hrr
        have HR3 := Aside0.mk hrr
        clear hrr HRR
        have d3 : ((k != 3) && (k != 4) && (k != 6)) = false := by
          rcases h3 with rfl | rfl | rfl <;> rfl
        obtain ⟨t2, ht2⟩ : ∃ t2, l.getD (n + 1) z68 = t2 := ⟨_, rfl⟩
        have HT2 := Aside0.mk ht2
        rw [ht2] at HR3
        obtain ⟨uk, ua, us, un⟩ := t2
        simp only at HR3
        have N2 := Aside0.mk (show w2.heap.size ≠ g by have := blk_lt H2.out.blk; omega)
        have N3 := Aside0.mk (show w.heap.size < w2.heap.size from N1.out)
        clear ht2 h3 d3
        have hk : k = 3 ∨ k = 4 ∨ k = 6 := HK3.out
        have W3 : Aside0 (∃ w3, w3 = (w2.alloc (a35 k 0)).setCell ⟨g, 1, none⟩ (.int .i64 ((n + 1 : Nat) : Int))) := ⟨⟨_, rfl⟩⟩
        have HR := Aside0.mk ((H2.out.grown (below_alloc (Below.refl _ _) (a35 k 0))).put (n + 1) HN.out)
        have HG := Aside0.mk (gr_set (gr_alloc G2.out (a35 k 0)) 1 (.int .i64 ((n + 1 : Nat) : Int)))
        have HA := Aside0.mk (blk_far (blk_new w2 (a35 k 0)) (p := ⟨g, 1, none⟩) N2.out (.int .i64 ((n + 1 : Nat) : Int)))
        have HB0 := Aside0.mk (blk_far (blk_alloc K2.out (a35 k 0)) (p := ⟨g, 1, none⟩) N0.out (.int .i64 ((n + 1 : Nat) : Int)))
        rcases hk with rfl | rfl | rfl
        all_goals
          go_wp2_with fail
          rw [HKW.out]
          refine (now_calls _ g A c l (n + 1) HR.out).mono ?_
          rintro e w4 ⟨rfl, hb⟩
          rw [HT2.out]
          have R4 := Aside0.mk (HR.out.grown hb)
          have G4 := Aside0.mk (gr_below HG.out hb)
          have A4 := Aside0.mk (blk_below HA.out hb)
          have B4 := Aside0.mk (blk_below HB0.out hb)
          clear hb m0 x1 f1 e1 e2 HR HG HA HB0 W3 HKD M1 K2 H2 G2 hu35
          unfold S68.cells
          simp only
          generalize w2.heap.size = b2 at A4 N2 N3 ⊢
          have hb2 := blk_lt A4.out
          have HB2 := Aside0.mk hb2
          have hr3 := HR3.out
          by_cases hu : uk = 2
          · rw [if_pos hu] at hr3
            have e5 : (uk == 2) = true := by simpa using hu
            by_cases h6 : 65535 < un
            · rw [if_pos h6] at hr3
              subst hr3
              have e6 : decide (65535 < un) = true := decide_eq_true h6
              clear hu h6 HR3 hb2
              go_wp2_with fail
              refine (fail_calls 6 _ g A c l (n + 1) (R4.out.grown (below_alloc (Below.refl _ _) _))).mono ?_
              rintro e w5 ⟨rfl, hb⟩
              refine ⟨rfl, ?_⟩
              rw [HTB.out]
              exact ⟨by rw [HT2.out]; rfl, gr_below (gr_alloc G4.out _) hb⟩
            · rw [if_neg h6] at hr3
              subst hr3
              have e6 : decide (65535 < un) = false := decide_eq_false h6
              have HM : Aside0 (mustR l 2 (n + 1) = .ok (⟨uk, ua, us, un⟩, n + 2)) := ⟨by unfold mustR; rw [HT2.out, if_pos hu]⟩
              clear hu h6 HR3 hb2
              have hfd := run_field68_3
              go_wp2_with fail
              have hmc := must_calls 2 (w4.alloc (.cells #[.int .i64 uk, .int .i64 ua, .string us, .int .u64 un] 68 (0, 0))) g A c l (n + 1) (R4.out.grown (below_alloc (Below.refl _ _) _)) (by decide)
              rw [HM.out] at hmc
              refine hmc.mono ?_
              rintro e w5 ⟨v, rfl, hv, hR5, hG5⟩
              obtain rfl : v = .agg (S68.cells ⟨uk, ua, us, un⟩) := hv
              have A5 := Aside0.mk (gr_blk hG5 (blk_alloc A4.out (.cells #[.int .i64 uk, .int .i64 ua, .string us, .int .u64 un] 68 (0, 0))) (fun e => N2.out (by cases e; rfl)))
              have B5 := Aside0.mk (gr_blk hG5 (blk_alloc B4.out (.cells #[.int .i64 uk, .int .i64 ua, .string us, .int .u64 un] 68 (0, 0))) (fun e => N0.out (by cases e; rfl)))
              have R5 := Aside0.mk hR5
              have G5 := Aside0.mk ((gr_alloc G4.out (.cells #[.int .i64 uk, .int .i64 ua, .string us, .int .u64 un] 68 (0, 0))).trans hG5)
              clear hmc hR5 hG5 A4 B4 R4 G4
              have c1 : w5.cell? ⟨b2, 1, none⟩ = some (.int .i64 0) := (blk_cell A5.out 1).trans rfl
              have f1 := blk_frozen A5.out 1
              have HI := Aside0.mk (fun x y => info35 x y)
              have NE := Aside0.mk (show w.heap.size ≠ b2 by have := N3.out; omega)
              go_wp2_with (first
                | ((with_reducible refine gate_dst (N := 66) rfl ?_); refine wpList_load_row rfl 35 (.tmp 6) rfl b2 rfl 35 _ (0, 0) _ (blk_put A5.out 1 _ rfl) Try.underlying35 rfl (HI.out _ _) ?_)
                | ((with_reducible refine gate_store (p := 4) rfl ?_); refine store_all (ty := 35) (p := 4) (y := .tmp 66) (b := w.heap.size) (old := #[.int .i64 0, .int .i64 0]) (cells := #[.int .i64 _, .int .i64 (wrap64 un)]) rfl rfl rfl rfl rfl (blk_far B5.out NE.out _) rfl (HI.out _ _) (by simp [Value.oneCell']) ?_; intro w6 hk6 hg6; have K6 := Aside0.mk hk6; have G6 := Aside0.mk hg6; clear hk6 hg6))
              have hgw := (gr_new G5.out (b := b2) (by have := N3.out; omega) 1 (.int .i64 (wrap64 un))).andThen G6.out (fun j hj => .inl (by cases hj; exact Nat.le_refl _))
              have hbg := gr_blk G6.out (blk_far R5.out.blk (p := ⟨b2, 1, none⟩) (Ne.symm N2.out) (.int .i64 (wrap64 un))) (fun e => N0.out (by cases e; rfl))
              refine bodyPost_ret (results_cell_row rfl _ _ w.heap.size 35 _ (0, 0) _ rfl K6.out Try.underlying35 rfl (HI.out _ _)) rfl ?_
              rw [HTB.out]
              exact ⟨_, rfl, rfl, H.out.at_ hgw hbg R5.out.lt, hgw⟩
          · rw [if_neg hu] at hr3
            subst hr3
            have e5 : (uk == 2) = false := by simpa using hu
            have HM : Aside0 (mustR l 2 (n + 1) = .error (7, ua)) := ⟨by unfold mustR; rw [HT2.out, if_neg hu]⟩
            clear hu HR3 hb2
            go_wp2_with fail
            have hmc := must_calls 2 (w4.alloc (.cells #[.int .i64 uk, .int .i64 ua, .string us, .int .u64 un] 68 (0, 0))) g A c l (n + 1) (R4.out.grown (below_alloc (Below.refl _ _) _)) (by decide)
            rw [HM.out] at hmc
            refine hmc.mono ?_
            rintro e w5 ⟨rfl, hG5⟩
            refine ⟨rfl, ?_⟩
            rw [HTB.out]
            exact ⟨rfl, (gr_alloc G4.out _).trans hG5⟩
end Go.Proofs.Ytidnojkijfinaaa.Fns
