/- The document's reader: its state; Next. -/
import Derived.Test.YtpkgpapdmjapmaaFrStand
import Derived.StillTailTactics
namespace Go.Proofs.Ytpkgpapdmjapmaa.Fns
open Go.RowKit Go.Proofs.YtpkgpapdmjapmaaW.PrintWords Go.Proofs.YtpkgpapdmjapmaaW.PrintLast Go.Proofs.YtpkgpapdmjapmaaW.PrintMore Go.Proofs.Ytpkgpapdmjapmaa.SumMath Go.Proofs.Ytpkgpapdmjapmaa.Pure
set_option linter.unusedVariables false
set_option linter.unusedSimpArgs false

theorem q_types34 : ∀ q, q ∈ 5 :: (Kd.int .u8).E → q ≠ 34 := fun q hq => by
  have : q = 5 := by simpa [Kd.int, Kd.scalar] using hq
  subst this
  decide
/-- The document's reader: in block g, its bytes in a row of its own. -/
def Rf (ok : Nat → Prop) (base : Nat) (w : World) (g : Nat) (B : List Int) (lost : Int) : Prop :=
  base ≤ g ∧ ∃ v, w.heap[g]? = some (.cells #[v, .int .i64 lost] 34 (0, 0)) ∧ Kd.R (Kd.int .u8) 5 w base ok v B
theorem Rf.mono {ok ok' : Nat → Prop} {base g : Nat} {w : World} {B : List Int} {lost : Int} (h : Rf ok base w g B lost) (hok : ∀ k, ok k → ok' k) : Rf ok' base w g B lost := by
  obtain ⟨h1, v, h2, h3⟩ := h
  exact ⟨h1, v, h2, Kd.R_mono h3 hok⟩
theorem Rf.lt {ok : Nat → Prop} {base g : Nat} {w : World} {B : List Int} {lost : Int} (h : Rf ok base w g B lost) : g < w.heap.size := by
  obtain ⟨_, v, h2, _⟩ := h
  exact blk_lt h2
theorem Rf.bound {ok : Nat → Prop} {base g : Nat} {w : World} {B : List Int} {lost : Int} (h : Rf ok base w g B lost) : Rf (fun k => ok k ∧ base ≤ k ∧ k < w.heap.size ∧ k ≠ g) base w g B lost := by
  obtain ⟨h1, v, h2, h3⟩ := h
  exact ⟨h1, v, h2, Kd.R_mono (Kd.R_types (Kd.R_bound h3) h2 q_types34) (fun k hk => ⟨hk.1.1, hk.1.2.1, hk.1.2.2.1, hk.2⟩)⟩
theorem Rf.move {ok S : Nat → Prop} {base g : Nat} {w w' : World} {B : List Int} {lost : Int} (h : Rf ok base w g B lost) (k : Kp S w w') (hg : ¬ S g) (hS : ∀ k, ok k → ¬ S k) : Rf ok base w' g B lost := by
  have hlt := h.lt
  obtain ⟨h1, v, h2, h3⟩ := h
  exact ⟨h1, v, (k.block g hlt hg).trans h2, Kd.R_step h3 (fun j hj hl => k.block j hl (hS j hj))⟩
theorem Rf.below {ok : Nat → Prop} {base g : Nat} {w w' : World} {B : List Int} {lost : Int} (h : Rf ok base w g B lost) (k : Below w.heap.size w w') : Rf ok base w' g B lost :=
  h.move (S := fun _ => False) (Kp.of_below k) (fun h => h) (fun _ _ h => h)
theorem Rf.drewN {ok : Nat → Prop} {base g : Nat} {w : World} {B : List Int} {lost : Int} (h : Rf ok base w g B lost) (n : Nat) : Rf ok base (w.drewN n) g B lost := h.below (pw_below_drewN (Below.refl _ _) n)
theorem Rf.open_ {ok : Nat → Prop} {base g : Nat} {w : World} {B : List Int} {lost : Int} (h : Rf ok base w g B lost) :
    ∃ A c, w.heap[g]? = some (.cells #[.slice A B.length c, .int .i64 lost] 34 (0, 0)) ∧ Kd.R (Kd.int .u8) 5 w base ok (.slice A B.length c) B ∧ B.length ≤ c ∧ Kd.C (Kd.int .u8) w A B.length B := by
  obtain ⟨_, v, hb, hq⟩ := h
  obtain ⟨A, c, rfl, hl, hc⟩ := Kd.R_reads hq
  exact ⟨A, c, hb, hq, hl, hc⟩
theorem Rf.set_row {ok : Nat → Prop} {base g : Nat} {w : World} {B : List Int} {lost : Int} {u v : Value} (hg : base ≤ g) (hb : w.heap[g]? = some (.cells #[u, .int .i64 lost] 34 (0, 0))) (hq : Kd.R (Kd.int .u8) 5 w base ok v B) : Rf ok base (w.setCell ⟨g, 0, none⟩ v) g B lost :=
  ⟨hg, v, (blk_set hb 0 v).trans (by simp), Kd.R_set hq hb q_types34 0 v⟩
theorem Rf.set_lost {ok : Nat → Prop} {base g : Nat} {w : World} {B : List Int} {lost : Int} (h : Rf ok base w g B lost) (x : Int) : Rf ok base (w.setCell ⟨g, 1, none⟩ (.int .i64 x)) g B x := by
  obtain ⟨h1, v, h2, h3⟩ := h
  exact ⟨h1, v, (blk_set h2 1 _).trans (by simp), Kd.R_set h3 h2 q_types34 1 _⟩

theorem ref_done {w w32 : World} {base g n0 : Nat} {u v : Value} {lost : Int} {rest : List Int} (hg : base ≤ g) (hblk : w32.heap[g]? = some (.cells #[u, .int .i64 lost] 34 (0, 0))) (ho : Kd.R (Kd.int .u8) 5 w32 n0 (fun _ => True) v rest)
    (hn : w.heap.size ≤ n0) (hbase : base ≤ w.heap.size) (hb : Below w.heap.size w w32) (x : Int) :
    Rf (fun k => w.heap.size ≤ k) base ((w32.setCell ⟨g, 0, none⟩ v).setCell ⟨g, 1, none⟩ (.int .i64 x)) g rest x ∧ Kp (fun k => k = g) w ((w32.setCell ⟨g, 0, none⟩ v).setCell ⟨g, 1, none⟩ (.int .i64 x)) :=
  ⟨(Rf.set_row hg hblk (Kd.R_mono (Kd.R_lower (Kd.R_bound ho) (Nat.le_trans hbase hn)) (fun k hk => Nat.le_trans hn hk.2.1))).set_lost x, ((Kp.of_below (S := fun k => k = g) hb).set g 0 _ rfl).set g 1 _ rfl⟩
theorem ref_body {w w32 : World} {g n0 : Nat} {u v v3 : Value} {lost : Int} {bd : List Int} (hblk : w32.heap[g]? = some (.cells #[u, .int .i64 lost] 34 (0, 0))) (ho : Kd.R (Kd.int .u8) 5 w32 n0 (fun _ => True) v3 bd)
    (hn : w.heap.size ≤ n0) (x : Int) : Kd.R (Kd.int .u8) 5 ((w32.setCell ⟨g, 0, none⟩ v).setCell ⟨g, 1, none⟩ (.int .i64 x)) w.heap.size (fun _ => True) v3 bd :=
  Kd.R_lower (Kd.R_set (Kd.R_set ho hblk q_types34 0 v) (blk_set hblk 0 v) q_types34 1 _) hn

set_option maxHeartbeats 8000000 in
set_option maxRecDepth 100000 in
theorem ref_next_calls (ok : Nat → Prop) (base g : Nat) (B : List Int) (lost : Int) (w : World) (hI : Rf ok base w g B lost) (hb : Bytes B) (hB : B.length ≤ 1000000) (hl0 : 0 ≤ lost) (hl1 : lost ≤ 1000000) :
    Calls Try.prog 15 #[.pointer (some ⟨g, 0, none⟩)] w fun e w' => ∃ v, e = .returned (.tuple #[v, .bool (nx B).1.isSome]) ∧ Rf (fun k => w.heap.size ≤ k) base w' g (nx B).2.1 (lost + ((nx B).2.2 : Int)) ∧ Kp (fun k => k = g) w w' ∧
      ((nx B).1 = none → v = .slice none 0 0) ∧ (∀ bd, (nx B).1 = some bd → Kd.R (Kd.int .u8) 5 w' w.heap.size (fun _ => True) v bd) := by
  have HI := Aside0.mk hI
  have HB := Aside0.mk hb
  have hgw := Aside0.mk hI.lt
  clear hI hb
  go_enter Try.func15, Try.ntmps15
  go_wp2_with fail
  go_loopw [4] (fun v4 wr => ∃ k : Nat, k ≤ B.length ∧ v4 = .int .i64 (k : Int) ∧ Aside0 (Below w.heap.size w wr) ∧ Aside0 ((nx B).1 = (nx (B.drop k)).1 ∧ (nx B).2.1 = (nx (B.drop k)).2.1 ∧ (nx B).2.2 = k + (nx (B.drop k)).2.2)) (fun v4 _ => B.length - (intOf v4).toNat)
  case atStart => exact ⟨0, by omega, by first | rfl | simp, ⟨by first | exact Below.refl _ _ | exact pw_below_drewN (Below.refl _ _) _⟩, ⟨by simp⟩⟩
  case round =>
    obtain ⟨k, hk, rfl, HBr, HE⟩ := hrel
    have HR := Aside0.mk (HI.out.below HBr.out)
    obtain ⟨A, c, hblk, hq, hlc, hC⟩ := HR.out.open_
    have HBK := Aside0.mk hblk
    have h0 : wr.cell? ⟨g, 0, none⟩ = some (.slice A B.length c) := (blk_cell hblk 0).trans rfl
    have h1 : wr.cell? ⟨g, 1, none⟩ = some (.int .i64 lost) := (blk_cell hblk 1).trans rfl
    have hf0 := blk_frozen hblk 0
    have hf1 := blk_frozen hblk 1
    have HQ := Aside0.mk hq
    clear hblk hlc hC
    by_cases hkl : k < B.length
    · have d0 : decide ((k : Int) < (B.length : Int)) = true := decide_eq_true (by omega)
      have d1 : decide (k < B.length) = true := decide_eq_true hkl
      obtain ⟨i0, hi0, _, hsz0, _⟩ := info_parts info5
      have hcut := cut_from (P := Try.prog) 22 5 .i64 Try.underlying22 hi0 1 hsz0 A B.length c (k : Int) (by omega) (by omega)
      have hqd := Kd.Q_drop (k := k) (Kd.Q_of_R hq) (by omega)
      have e2 : (Kd.int .u8).sz = 1 := rfl
      rw [Int.toNat_natCast] at hcut
      rw [e2] at hqd
      generalize (if c = k then A else A.map (·.add (k * 1))) = A9 at hcut hqd
      have hlen : B.length - k = (B.drop k).length := (List.length_drop).symm
      rw [hlen] at hcut hqd
      have HLN := Aside0.mk hlen
      have HQD := Aside0.mk (Kd.Q_reads' hqd)
      have HLB := Aside0.mk (show Bytes (B.drop k) from fun x hx => HB.out x (List.mem_of_mem_drop hx))
      obtain ⟨L, hL⟩ : ∃ L, B.drop k = L := ⟨_, rfl⟩
      have HL := Aside0.mk hL
      have HL1 := Aside0.mk (show L = B[k] :: B.drop (k + 1) by rw [← hL]; exact List.drop_eq_getElem_cons hkl)
      rw [hL] at hcut HQD HLB HLN HE
      have HLL := Aside0.mk (show L.length ≤ 1000000 by rw [← HLN.out]; omega)
      clear hqd hq hL hlen hsz0 hi0 e2
      rcases three L with hh | hh | hh
      · have HHT := Aside0.mk hh
        obtain ⟨n1, n2, _, _, _⟩ := bgn_long L HLB.out hh.1 (by have := hh.2.1; omega)
        have hbl := body_length L (nn L) hh.2.2.1
        have HX := Aside0.mk (nx_found L (by intro h; rw [h] at hh; exact absurd hh.2.1 (by simp)) hh.1 hh.2.1 hh.2.2.1 hh.2.2.2)
        have hln := HLN.out
        have h8 := hh.2.2.1
        obtain ⟨bd, hbd⟩ : ∃ bd, bodyAt L (nn L) = bd := ⟨_, rfl⟩
        have HBD := Aside0.mk hbd
        rw [hbd] at hbl HX
        rw [← hbl] at n1 n2 h8 HX
        have hix : k + 8 + bd.length ≤ B.length := by omega
        obtain ⟨i0, hi0, _, hsz0, _⟩ := info_parts info5
        have hcut2 := cut_from (P := Try.prog) 22 5 .i64 Try.underlying22 hi0 1 hsz0 A B.length c ((k : Int) + 8 + (bd.length : Int)) (by omega) (by omega)
        have hqd2 := Kd.Q_drop (k := k + 8 + bd.length) (Kd.Q_of_R HQ.out) hix
        have e2 : (Kd.int .u8).sz = 1 := rfl
        rw [show ((k : Int) + 8 + (bd.length : Int)).toNat = k + 8 + bd.length by omega] at hcut2
        rw [e2] at hqd2
        generalize (if c = k + 8 + bd.length then A else A.map (·.add ((k + 8 + bd.length) * 1))) = A10 at hcut2 hqd2
        have eR : L.drop (8 + bd.length) = B.drop (k + 8 + bd.length) := by rw [← HL.out, List.drop_drop]; congr 1; omega
        rw [eR] at HX
        have hlen2 : B.length - (k + 8 + bd.length) = (B.drop (k + 8 + bd.length)).length := (List.length_drop).symm
        rw [hlen2] at hcut2 hqd2
        have HQD2 := Aside0.mk (Kd.Q_reads' hqd2)
        have HRL := Aside0.mk (show (B.drop (k + 8 + bd.length)).length ≤ 1000000 by rw [← hlen2]; omega)
        have HBL := Aside0.mk hbl
        have b1 : decide ((0 : Int) < (bd.length : Int)) = true := decide_eq_true (by omega)
        have b2 : decide (0 < bd.length) = true := decide_eq_true (by omega)
        have HLO := Aside0.mk (And.intro hl0 hl1)
        generalize B.drop (k + 8 + bd.length) = rest at hcut2 HQD2 HRL HX
        clear hqd2 hi0 hsz0 e2 eR hlen2 hh hbd hbl hln h8
        go_wp2_with fail
        refine (stands_hit A9 _ L wr HQD.out.2.2 HQD.out.2.1 HLB.out HLL.out HHT.out).mono ?_
        rintro e w3 ⟨v3, rfl, ho3, hb3⟩
        rw [HBD.out] at ho3
        obtain ⟨A3, c3, rfl⟩ := Kd.R_slice ho3
        have HB3 := Aside0.mk hb3
        have HO3 := Aside0.mk ho3
        have HBK3 := Aside0.mk (blk_below HBK.out hb3)
        have HC3 := Aside0.mk (Kd.C_below HQD2.out.2.2 hb3)
        have k0 : w3.cell? ⟨g, 0, none⟩ = some (.slice A B.length c) := (blk_cell HBK3.out 0).trans rfl
        clear ho3 hb3 h0 h1 hf0 hf1
        go_wp2_with (first
          | ((with_reducible refine gate_dst (N := 26) rfl ?_); refine Kd.R_lit (Kd.int .u8) (w0 := w3) w3.heap.size 5 ?hg (N := 26) ?hd (xs := ([] : List Int)) (inner := []) (ok := fun _ => True) (okp := fun _ => True) ?hr ?hp (fun _ hk => hk) trivial (Below.refl _ _) (Nat.le_refl _) (by simp) ?_; (case hd => rfl); (case hg => rfl); (case hr => first | (go_simp; done) | (go_simp; rfl)); (case hp => exact Reps.none _ _); intro v30 w30 ho30 hb30 hg30 hn30; have HO30 := Aside0.mk ho30; have HB30 := Aside0.mk hb30; have hbl30 := blk_below HBK3.out hb30; have HBK30 := Aside0.mk hbl30; have j0 : w30.cell? ⟨g, 0, none⟩ = some (.slice A B.length c) := (blk_cell hbl30 0).trans rfl; clear ho30 hb30 hg30 hn30 hbl30)
          | ((with_reducible refine gate_dst (N := 37) rfl ?_); refine Kd.R_append_rows (Kd.int .u8) (Rr := (Kd.int .u8).K w30) (w0 := w3) w3.heap.size rfl (.tmp 26) (.tmp 36) 22 5 (.int .u8 0) 1 rfl Try.underlying22 info5 rfl (by decide) (by decide) v30 [] rest A10 (rest).length (c - (k + 8 + bd.length)) (fun _ => True) (fun _ => False) rfl rfl ?aO ?aR (fun _ _ h => h) (fun _ h => h.elim) ?aF ?aB ?aS ?aL ?_; (case aR => exact Kd.C_below HC3.out HB30.out); (case aB => exact HB30.out); (case aF => exact fun _ _ => trivial); (case aO => exact HO30.out); (case aS => exact HB30.out.size); (case aL => have := HRL.out; simp; omega); intro v32 w32 ho32 hb32 hg32 hat32; have hbl32 := blk_below HBK3.out hb32; have HBK32 := Aside0.mk hbl32; have i0 : w32.cell? ⟨g, 0, none⟩ = some (.slice A B.length c) := (blk_cell hbl32 0).trans rfl; have i1 : w32.cell? ⟨g, 1, none⟩ = some (.int .i64 lost) := (blk_cell hbl32 1).trans rfl; have if0 := blk_frozen hbl32 0; have if1 := blk_frozen hbl32 1; rw [List.nil_append] at ho32; obtain ⟨A32, c32, rfl⟩ := Kd.R_slice ho32; have HO32 := Aside0.mk ho32; have HB32 := Aside0.mk hb32; clear ho32 hb32 hg32 hat32 hbl32))
        try simp only [Exit.noGoto_ret]
        go_ret2
        have hbw : Below w.heap.size w w32 := below_then (below_then HBr.out HBr.out.size HB3.out) (Nat.le_trans HBr.out.size HB3.out.size) HB32.out
        have hd := ref_done (w := w) HI.out.1 HBK32.out HO32.out (Nat.le_trans HBr.out.size HB3.out.size) (Nat.le_trans HI.out.1 (Nat.le_of_lt hgw.out)) hbw (lost + (k : Int))
        refine ⟨_, by rw [HE.out.1, HX.out]; rfl, ?_, ?_, fun h => ?_, fun bd' hbd' => ?_⟩
        · rw [HE.out.2.1, HE.out.2.2, HX.out]
          simpa using hd.1
        · simpa using hd.2
        · rw [HE.out.1, HX.out] at h
          cases h
        · rw [HE.out.1, HX.out] at hbd'
          injection hbd' with hbd'
          subst hbd'
          exact ref_body HBK32.out (Kd.R_below HO3.out HB32.out) HBr.out.size _
      · have HHT := Aside0.mk (waits_not_hit L hh)
        have HMT := Aside0.mk (might_waits L HLB.out HLL.out hh)
        have HX := Aside0.mk (nx_wait L (by rw [HL1.out]; exact List.cons_ne_nil _ _) hh.1 hh.2)
        have HRL := HLL
        have HLO := Aside0.mk (And.intro hl0 hl1)
        clear hh
        go_wp2_with fail
        refine (stands_not A9 _ L wr HQD.out.2.2 HQD.out.2.1 HLB.out HLL.out HHT.out).mono ?_
        rintro e w3 ⟨v3, rfl, ho3, hb3⟩
        obtain ⟨A3, c3, rfl⟩ := Kd.R_slice ho3
        have HB3 := Aside0.mk hb3
        have k0 : w3.cell? ⟨g, 0, none⟩ = some (.slice A B.length c) := (blk_cell (blk_below HBK.out hb3) 0).trans rfl
        clear ho3 hb3 h0 h1 hf0 hf1
        go_wp2_with fail
        refine (fairleadref16_Might.calls 2 A9 _ L true w3 (Kd.C_below HQD.out.2.2 HB3.out) HQD.out.2.1 HMT.out).mono ?_
        rintro e w4 ⟨rfl, ⟨m, rfl⟩⟩
        have HBm := Aside0.mk (pw_below_drewN HB3.out m)
        generalize w3.drewN m = w4 at HBm ⊢
        have HBK3 := Aside0.mk (blk_below HBK.out HBm.out)
        have k4 : w4.cell? ⟨g, 0, none⟩ = some (.slice A B.length c) := (blk_cell HBK3.out 0).trans rfl
        have HC3 := Aside0.mk (Kd.C_below HQD.out.2.2 HBm.out)
        go_wp2_with (first
          | ((with_reducible refine gate_dst (N := 58) rfl ?_); refine Kd.R_lit (Kd.int .u8) (w0 := w4) w4.heap.size 5 ?hg (N := 58) ?hd (xs := ([] : List Int)) (inner := []) (ok := fun _ => True) (okp := fun _ => True) ?hr ?hp (fun _ hk => hk) trivial (Below.refl _ _) (Nat.le_refl _) (by simp) ?_; (case hd => rfl); (case hg => rfl); (case hr => first | (go_simp; done) | (go_simp; rfl)); (case hp => exact Reps.none _ _); intro v30 w30 ho30 hb30 hg30 hn30; have HO30 := Aside0.mk ho30; have HB30 := Aside0.mk hb30; have hbl30 := blk_below HBK3.out hb30; have HBK30 := Aside0.mk hbl30; have j0 : w30.cell? ⟨g, 0, none⟩ = some (.slice A B.length c) := (blk_cell hbl30 0).trans rfl; clear ho30 hb30 hg30 hn30 hbl30)
          | ((with_reducible refine gate_dst (N := 65) rfl ?_); refine Kd.R_append_rows (Kd.int .u8) (Rr := (Kd.int .u8).K w30) (w0 := w4) w4.heap.size rfl (.tmp 58) (.tmp 64) 22 5 (.int .u8 0) 1 rfl Try.underlying22 info5 rfl (by decide) (by decide) v30 [] L A9 (L).length (c - k) (fun _ => True) (fun _ => False) rfl rfl ?aO ?aR (fun _ _ h => h) (fun _ h => h.elim) ?aF ?aB ?aS ?aL ?_; (case aR => exact Kd.C_below HC3.out HB30.out); (case aB => exact HB30.out); (case aF => exact fun _ _ => trivial); (case aO => exact HO30.out); (case aS => exact HB30.out.size); (case aL => have := HRL.out; simp; omega); intro v32 w32 ho32 hb32 hg32 hat32; have hbl32 := blk_below HBK3.out hb32; have HBK32 := Aside0.mk hbl32; have i0 : w32.cell? ⟨g, 0, none⟩ = some (.slice A B.length c) := (blk_cell hbl32 0).trans rfl; have i1 : w32.cell? ⟨g, 1, none⟩ = some (.int .i64 lost) := (blk_cell hbl32 1).trans rfl; have if0 := blk_frozen hbl32 0; have if1 := blk_frozen hbl32 1; rw [List.nil_append] at ho32; obtain ⟨A32, c32, rfl⟩ := Kd.R_slice ho32; have HO32 := Aside0.mk ho32; have HB32 := Aside0.mk hb32; clear ho32 hb32 hg32 hat32 hbl32))
        try simp only [Exit.noGoto_ret]
        go_ret2
        have hbw : Below w.heap.size w w32 := below_then (below_then HBr.out HBr.out.size HBm.out) (Nat.le_trans HBr.out.size HBm.out.size) HB32.out
        have hd := ref_done (w := w) HI.out.1 HBK32.out HO32.out (Nat.le_trans HBr.out.size HBm.out.size) (Nat.le_trans HI.out.1 (Nat.le_of_lt hgw.out)) hbw (lost + (k : Int))
        refine ⟨_, by rw [HE.out.1, HX.out]; rfl, ?_, ?_, fun _ => rfl, fun bd' hbd' => ?_⟩
        · rw [HE.out.2.1, HE.out.2.2, HX.out]
          simpa using hd.1
        · simpa using hd.2
        · rw [HE.out.1, HX.out] at hbd'
          cases hbd'
      · have HHT := Aside0.mk (skips_not_hit L hh)
        have HMT := Aside0.mk (might_skips L HLB.out HLL.out hh)
        have HSK := Aside0.mk hh
        have hkw : wrap64 ((k : Int) + 1) = ((k + 1 : Nat) : Int) := by rw [IntWalk.wrap64_in _ (by omega)]; rfl
        have HKW := Aside0.mk hkw
        clear hh hkw
        go_wp2_with fail
        refine (stands_not A9 _ L wr HQD.out.2.2 HQD.out.2.1 HLB.out HLL.out HHT.out).mono ?_
        rintro e w3 ⟨v3, rfl, ho3, hb3⟩
        obtain ⟨A3, c3, rfl⟩ := Kd.R_slice ho3
        have HB3 := Aside0.mk hb3
        have HBK3 := Aside0.mk (blk_below HBK.out hb3)
        have k0 : w3.cell? ⟨g, 0, none⟩ = some (.slice A B.length c) := (blk_cell HBK3.out 0).trans rfl
        clear ho3 hb3 h0 h1 hf0 hf1
        go_wp2_with fail
        refine (fairleadref16_Might.calls 2 A9 _ L false w3 (Kd.C_below HQD.out.2.2 HB3.out) HQD.out.2.1 HMT.out).mono ?_
        rintro e w4 ⟨rfl, ⟨m, rfl⟩⟩
        go_wp2_with fail
        refine ⟨⟨k + 1, by omega, rfl, ⟨pw_below_drewN (below_then HBr.out HBr.out.size HB3.out) m⟩, ⟨?_⟩⟩, ?_⟩
        · have := HE.out
          have hs := HSK.out
          rw [HL1.out] at this hs
          rw [nx_skip _ _ hs] at this
          have h3 := this.2.2
          simp only at h3
          exact ⟨this.1, this.2.1, by omega⟩
        · simp only [intOf]
          omega
    · have d0 : decide ((k : Int) < (B.length : Int)) = false := decide_eq_false (by omega)
      have d1 : decide (k < B.length) = false := decide_eq_false hkl
      obtain rfl : k = B.length := by omega
      have HX := Aside0.mk (show nx (B.drop B.length) = (none, [], 0) by rw [List.drop_length]; rfl)
      have h0' : wr.drew.cell? ⟨g, 0, none⟩ = some (.slice A B.length c) := h0
      have h1' : wr.drew.cell? ⟨g, 1, none⟩ = some (.int .i64 lost) := h1
      go_upto_region 13 with (fail)
      go_still_tail 13, (by kernel_rfl)
      change wpList _ _ _ _ _ wr.drew
      have hbk := blk_below HBK.out (Below.drew (Below.refl _ wr))
      have HB1 := Aside0.mk (Below.drew HBr.out)
      have HBK1 := Aside0.mk hbk
      have HRf1 := Aside0.mk (HR.out.below (Below.drew (Below.refl _ wr)))
      have hf0' := blk_frozen hbk 0
      have hf1' := blk_frozen hbk 1
      clear hq hbk
      generalize wr.drew = w1 at HB1 HBK1 HRf1 h0' h1' hf0' hf1' ⊢
      clear h0 h1 hf0 hf1
      go_wp2_with fail
      try simp only [Exit.noGoto_ret]
      go_ret2
      obtain ⟨_, _, hb9, _, _, _⟩ := (HRf1.out.set_lost (lost + (B.length : Int))).open_
      refine ⟨_, by rw [HE.out.1, HX.out]; rfl, ?_, ((Kp.of_below (S := fun k => k = g) HB1.out).set g 1 _ rfl).set g 0 _ rfl, fun _ => rfl, fun bd' hbd' => ?_⟩
      · rw [HE.out.2.1, HE.out.2.2, HX.out]
        exact Rf.set_row (ok := fun k => w.heap.size ≤ k) HI.out.1 hb9 (Kd.R_nil _ _ _ _ _)
      · rw [HE.out.1, HX.out] at hbd'
        cases hbd'
end Go.Proofs.Ytpkgpapdmjapmaa.Fns
