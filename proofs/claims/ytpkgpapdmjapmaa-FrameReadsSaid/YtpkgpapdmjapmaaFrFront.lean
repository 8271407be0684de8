/- front: the body of the frame at the front. -/
import Derived.Test.YtpkgpapdmjapmaaFns1
import Derived.Deep.RegionHeld3
namespace Go.Proofs.Ytpkgpapdmjapmaa.Fns
open Go.RowKit Go.Proofs.YtpkgpapdmjapmaaW.PrintWords Go.Proofs.YtpkgpapdmjapmaaW.PrintLast Go.Proofs.YtpkgpapdmjapmaaW.PrintMore
set_option linter.unusedVariables false
set_option linter.unusedSimpArgs false

/-- what the head tells: the length, and the sum. -/
def tN (l : List Int) : Int := Go.bits .or .i64 (IntKind.i64.wrap (IntKind.i64.wrap (rd l 2) * 256)) (IntKind.i64.wrap (rd l 3))
def tS (l : List Int) : Int := Go.bits .or .u32 (Go.bits .or .u32 (Go.bits .or .u32 (IntKind.u32.wrap (IntKind.u32.wrap (rd l 4) * 16777216)) (IntKind.u32.wrap (IntKind.u32.wrap (rd l 5) * 65536))) (IntKind.u32.wrap (IntKind.u32.wrap (rd l 6) * 256))) (IntKind.u32.wrap (rd l 7))

set_option maxHeartbeats 4000000 in
set_option maxRecDepth 100000 in
theorem front_calls (k n : Nat) (A0 : Option Addr) (c0 : Nat) (l0 : List Int) (w : World) (hr0 : Kd.C (Kd.int .u8) w A0 l0.length l0) (hc0 : l0.length ≤ c0) (h8 : 8 ≤ l0.length) (hn : tN l0 = (n : Int)) (h1 : 1 ≤ n) (h2 : n ≤ 512) (r1 r2 : Int) (hf : 8 + n ≤ l0.length → frame_of.f k ((l0.take (8 + n)).drop 8) = some (r1, r2)) :
    Calls Try.prog 24 #[.slice A0 l0.length c0] w fun e w' => Below w.heap.size w w' ∧ ∃ v b, e = .returned (.tuple #[v, .bool b]) ∧ ((l0.length < 8 + n ∧ v = .slice none 0 0 ∧ b = false) ∨ (8 + n ≤ l0.length ∧ (r1, r2) ≠ (tN l0, tS l0) ∧ v = .slice none 0 0 ∧ b = true) ∨
      (8 + n ≤ l0.length ∧ (r1, r2) = (tN l0, tS l0) ∧ b = true ∧ ∃ A c, v = .slice (some A) n c ∧ n ≤ c ∧ Kd.C (Kd.int .u8) w (some A) n ((l0.take (8 + n)).drop 8))) := by
  have HR0 := Aside0.mk hr0
  have HC0 := Aside0.mk hc0
  have H8 := Aside0.mk h8
  have hu48 := Try.underlying48
  obtain ⟨ad, e0, x2⟩ := Kd.at_int hr0 2 (by decide) (by omega)
  cases e0
  obtain ⟨ad', e0, x3⟩ := Kd.at_int hr0 3 (by decide) (by omega)
  cases e0
  obtain ⟨ad', e0, x4⟩ := Kd.at_int hr0 4 (by decide) (by omega)
  cases e0
  obtain ⟨ad', e0, x5⟩ := Kd.at_int hr0 5 (by decide) (by omega)
  cases e0
  obtain ⟨ad', e0, x6⟩ := Kd.at_int hr0 6 (by decide) (by omega)
  cases e0
  obtain ⟨ad', e0, x7⟩ := Kd.at_int hr0 7 (by decide) (by omega)
  cases e0
  have d0 : decide ((l0.length : Int) < 8) = false := decide_eq_false (by omega)
  have l2 : (2 : Int) < (l0.length : Int) := by omega
  have l3 : (3 : Int) < (l0.length : Int) := by omega
  have l4 : (4 : Int) < (l0.length : Int) := by omega
  have l5 : (5 : Int) < (l0.length : Int) := by omega
  have l6 : (6 : Int) < (l0.length : Int) := by omega
  have l7 : (7 : Int) < (l0.length : Int) := by omega
  have hadd : ∀ n : Nat, ad.add (n + 1) = ⟨ad.block, ad.off + (n + 1), none⟩ := fun n => rfl
  have hba : ∀ o, Below w.heap.size w (w.alloc o) := fun o => below_alloc (Below.refl _ _) o
  replace x2 := (congrArg w.cell? (hadd 1)).symm.trans x2
  replace x3 := (congrArg w.cell? (hadd 2)).symm.trans x3
  replace x4 := (congrArg w.cell? (hadd 3)).symm.trans x4
  replace x5 := (congrArg w.cell? (hadd 4)).symm.trans x5
  replace x6 := (congrArg w.cell? (hadd 5)).symm.trans x6
  replace x7 := (congrArg w.cell? (hadd 6)).symm.trans x7
  simp only [Nat.reduceAdd] at x2 x3 x4 x5 x6 x7
  clear hr0 hc0 h8 hadd
  go_enter Try.func24, Try.ntmps24
  go_upto_region 3 with (fail)
  go_cut [4] (fun v4 wc => v4 = .pointer (some ⟨w.heap.size, 0, none⟩) ∧ ∃ m, wc = (w.alloc (.cells #[.int .i64 (tN l0), .int .u32 (tS l0)] 48 (0, 0))).drewN m)
  case first =>
    go_region_held3 (fun W => W.cell? ⟨ad.block, ad.off + 2, none⟩ = some (.int .u8 (rd l0 2)) ∧ W.cell? ⟨ad.block, ad.off + 3, none⟩ = some (.int .u8 (rd l0 3)) ∧ W.cell? ⟨ad.block, ad.off + 4, none⟩ = some (.int .u8 (rd l0 4)) ∧ W.cell? ⟨ad.block, ad.off + 5, none⟩ = some (.int .u8 (rd l0 5)) ∧ W.cell? ⟨ad.block, ad.off + 6, none⟩ = some (.int .u8 (rd l0 6)) ∧ W.cell? ⟨ad.block, ad.off + 7, none⟩ = some (.int .u8 (rd l0 7)))
      ((first | exact ⟨x2, x3, x4, x5, x6, x7⟩ | exact ⟨pw_cell_below (hba _) x2, pw_cell_below (hba _) x3, pw_cell_below (hba _) x4, pw_cell_below (hba _) x5, pw_cell_below (hba _) x6, pw_cell_below (hba _) x7⟩ | exact ⟨pw_cell_below (Below.drew (hba _)) x2, pw_cell_below (Below.drew (hba _)) x3, pw_cell_below (Below.drew (hba _)) x4, pw_cell_below (Below.drew (hba _)) x5, pw_cell_below (Below.drew (hba _)) x6, pw_cell_below (Below.drew (hba _)) x7⟩)) (first | fail)
    all_goals
      go_wp2
      go_meet
      case rel => exact ⟨rfl, 1, rfl⟩
  case rest =>
    obtain ⟨rfl, m, rfl⟩ := hcut
    clear x2 x3 x4 x5 x6 x7
    have HB := Aside0.mk (pw_below_drewN (hba (.cells #[.int .i64 (tN l0), .int .u32 (tS l0)] 48 (0, 0))) m)
    have hblk : ((w.alloc (.cells #[.int .i64 (tN l0), .int .u32 (tS l0)] 48 (0, 0))).drewN m).heap[w.heap.size]? = some (.cells #[.int .i64 (tN l0), .int .u32 (tS l0)] 48 (0, 0)) := blk_drewN (blk_new w _) m
    clear hba
    generalize (w.alloc (.cells #[.int .i64 (tN l0), .int .u32 (tS l0)] 48 (0, 0))).drewN m = wc at HB hblk ⊢
    have HK := Aside0.mk hblk
    have k0 : wc.cell? ⟨w.heap.size, 0, none⟩ = some (.int .i64 (tN l0)) := (blk_cell hblk 0).trans rfl
    have k1 : wc.cell? ⟨w.heap.size, 1, none⟩ = some (.int .u32 (tS l0)) := (blk_cell hblk 1).trans rfl
    clear hblk
    rw [hn] at k0
    by_cases hl : l0.length < 8 + n
    · have d1 : decide ((l0.length : Int) < 8 + (n : Int)) = true := decide_eq_true (by omega)
      go_wp2
      go_ret2
      exact ⟨HB.out, _, _, rfl, .inl ⟨hl, rfl, rfl⟩⟩
    · have d1 : decide ((l0.length : Int) < 8 + (n : Int)) = false := decide_eq_false (by omega)
      obtain ⟨i019, hi019, _, hsz19, _⟩ := info_parts info5
      obtain ⟨A19, hcut19, hA19, hC19⟩ := print_mid_of (P := Try.prog) (Value.int .u8) 0 22 5 .i64 .i64 Try.underlying22 hi019 hsz19 (some ad) c0 l0 8 (8 + (n : Int)) (by omega) (by omega) (by omega) HC0.out
      have eT : ((8 + (n : Int))).toNat = 8 + n := by omega
      have e8 : (8 : Int).toNat = 8 := rfl
      have eL : ((l0.take (8 + n)).drop 8).length = n := by simp; omega
      rw [eT, e8, eL] at hcut19
      rw [eT, e8] at hA19 hC19
      have HCB := Kd.C_of_reads (h1 := fun _ => rfl) (hA19 _ (Kd.reads_of_C HR0.out))
      obtain ⟨A, rfl, _⟩ := HCB.2.2 (by omega)
      have HRB := Aside0.mk (show Kd.C (Kd.int .u8) w (some A) n ((l0.take (8 + n)).drop 8) by rw [eL] at HCB; exact HCB)
      have HCC := Aside0.mk (show n ≤ c0 - 8 by omega)
      have HF := Aside0.mk (hf (by omega))
      have HL := Aside0.mk (show 8 + n ≤ l0.length by omega)
      clear hA19 hC19 hi019 hsz19 hf eT e8 HCB
      have hof : ∀ W, Below w.heap.size w W → Calls Try.prog 20 #[.slice (some A) n (c0 - 8)] W fun e w' => e = .returned (.agg #[.int .i64 r1, .int .u32 r2]) ∧ Below W.heap.size W w' := fun W hW => by
        have := frame_of.calls k (some A) (c0 - 8) ((l0.take (8 + n)).drop 8) r1 r2 W (by rw [eL]; exact Kd.C_below HRB.out hW) (by rw [eL]; exact HCC.out) HF.out
        rw [eL] at this
        exact this
      have HOF := Aside0.mk hof
      clear hof
      rw [← hn] at k0
      go_upto_region 7 with (fail)
      go_cut [55] (fun v55 wd => Aside0 (Below w.heap.size w wd) ∧ v55 = .bool (!decide ((r1, r2) = (tN l0, tS l0))))
      case first =>
        clear HR0 HRB HF
        by_cases e1 : r1 = tN l0
        · subst e1
          by_cases e2 : r2 = tS l0
          · subst e2
            have dd : decide ((tN l0, tS l0) = (tN l0, tS l0)) = true := decide_eq_true rfl
            have DD := Aside0.mk dd
            clear dd
            go_region_held3 (fun W => W.cell? ⟨w.heap.size, 0, none⟩ = some (.int .i64 (tN l0)) ∧ W.cell? ⟨w.heap.size, 1, none⟩ = some (.int .u32 (tS l0)))
              ((first | exact ⟨k0, k1⟩ | exact ⟨pw_cell_below hb7 k0, pw_cell_below hb7 k1⟩))
              (first | (go_at_call 20; refine (HOF.out _ ?hB).mono ?_; (case hB => first | exact HB.out | exact Below.drew HB.out); rintro e w7 ⟨rfl, hb7⟩))
            go_wp2
            go_meet
            case rel => exact ⟨⟨below_then HB.out (below_size HB.out) ⟨hb7.os, hb7.tape, hb7.output, hb7.size, hb7.block⟩⟩, by rw [DD.out]; rfl⟩
          · have dd : decide ((tN l0, r2) = (tN l0, tS l0)) = false := decide_eq_false (fun h => e2 (Prod.mk.inj h).2)
            have DD := Aside0.mk dd
            clear dd
            have b2 : (r2 == tS l0) = false := by simpa using e2
            have b2' : decide (r2 = tS l0) = false := decide_eq_false e2
            go_region_held3 (fun W => W.cell? ⟨w.heap.size, 0, none⟩ = some (.int .i64 (tN l0)) ∧ W.cell? ⟨w.heap.size, 1, none⟩ = some (.int .u32 (tS l0)))
              ((first | exact ⟨k0, k1⟩ | exact ⟨pw_cell_below hb7 k0, pw_cell_below hb7 k1⟩))
              (first | (go_at_call 20; refine (HOF.out _ ?hB).mono ?_; (case hB => first | exact HB.out | exact Below.drew HB.out); rintro e w7 ⟨rfl, hb7⟩))
            go_wp2
            go_meet
            case rel => exact ⟨⟨below_then HB.out (below_size HB.out) ⟨hb7.os, hb7.tape, hb7.output, hb7.size, hb7.block⟩⟩, by rw [DD.out]; rfl⟩
        · have dd : decide ((r1, r2) = (tN l0, tS l0)) = false := decide_eq_false (fun h => e1 (Prod.mk.inj h).1)
          have DD := Aside0.mk dd
          clear dd
          have b1 : (r1 == (n : Int)) = false := by rw [← hn]; simpa using e1
          have b1' : decide (r1 = (n : Int)) = false := by rw [← hn]; exact decide_eq_false e1
          have b1'' : ¬ r1 = (n : Int) := by rw [← hn]; exact e1
          by_cases e2 : r2 = tS l0
          · have b2 : (r2 == tS l0) = true := by simpa using e2
            have b2' : decide (r2 = tS l0) = true := decide_eq_true e2
            clear e2
            go_region_held3 (fun W => W.cell? ⟨w.heap.size, 0, none⟩ = some (.int .i64 (tN l0)) ∧ W.cell? ⟨w.heap.size, 1, none⟩ = some (.int .u32 (tS l0)))
              ((first | exact ⟨k0, k1⟩ | exact ⟨pw_cell_below hb7 k0, pw_cell_below hb7 k1⟩))
              (first | (go_at_call 20; refine (HOF.out _ ?hB).mono ?_; (case hB => first | exact HB.out | exact Below.drew HB.out); rintro e w7 ⟨rfl, hb7⟩))
            go_wp2
            go_meet
            case rel => exact ⟨⟨below_then HB.out (below_size HB.out) ⟨hb7.os, hb7.tape, hb7.output, hb7.size, hb7.block⟩⟩, by rw [DD.out]; rfl⟩
          · have b2 : (r2 == tS l0) = false := by simpa using e2
            have b2' : decide (r2 = tS l0) = false := decide_eq_false e2
            go_region_held3 (fun W => W.cell? ⟨w.heap.size, 0, none⟩ = some (.int .i64 (tN l0)) ∧ W.cell? ⟨w.heap.size, 1, none⟩ = some (.int .u32 (tS l0)))
              ((first | exact ⟨k0, k1⟩ | exact ⟨pw_cell_below hb7 k0, pw_cell_below hb7 k1⟩))
              (first | (go_at_call 20; refine (HOF.out _ ?hB).mono ?_; (case hB => first | exact HB.out | exact Below.drew HB.out); rintro e w7 ⟨rfl, hb7⟩))
            go_wp2
            go_meet
            case rel => exact ⟨⟨below_then HB.out (below_size HB.out) ⟨hb7.os, hb7.tape, hb7.output, hb7.size, hb7.block⟩⟩, by rw [DD.out]; rfl⟩
      case rest =>
        obtain ⟨HD, rfl⟩ := hcut
        by_cases he : (r1, r2) = (tN l0, tS l0)
        · have d2 : decide ((r1, r2) = (tN l0, tS l0)) = true := decide_eq_true he
          rw [d2]
          go_wp2
          go_ret2
          exact ⟨HD.out, _, _, rfl, .inr (.inr ⟨HL.out, he, rfl, _, _, rfl, HCC.out, HRB.out⟩)⟩
        · have d2 : decide ((r1, r2) = (tN l0, tS l0)) = false := decide_eq_false he
          rw [d2]
          go_wp2
          go_ret2
          exact ⟨HD.out, _, _, rfl, .inr (.inl ⟨HL.out, he, rfl, rfl⟩)⟩

end Go.Proofs.Ytpkgpapdmjapmaa.Fns
