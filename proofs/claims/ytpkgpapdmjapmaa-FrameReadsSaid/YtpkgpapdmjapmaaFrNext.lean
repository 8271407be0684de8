/- Next: the next frame's body. -/
import Derived.Test.YtpkgpapdmjapmaaFrHead
import Derived.Test.YtpkgpapdmjapmaaFrRead
import Derived.WalkMore
import Derived.WalkSpells
namespace Go.Proofs.Ytpkgpapdmjapmaa.Pure
open Go.RowKit Go.Proofs.YtpkgpapdmjapmaaW.PrintWords Go.Proofs.YtpkgpapdmjapmaaW.PrintLast Go.Proofs.YtpkgpapdmjapmaaW.PrintMore Go.Proofs.Ytpkgpapdmjapmaa.SumMath Go.Proofs.Ytpkgpapdmjapmaa.Fns
def nn (l : List Int) : Nat := (tN l).toNat
def bodyAt (l : List Int) (n : Nat) : List Int := (l.take (8 + n)).drop 8
/-- what Next answers, what it leaves, how many bytes it loses. -/
def nx : List Int → Option (List Int) × List Int × Nat
  | [] => (none, [], 0)
  | x :: B =>
    if bgn (x :: B) = true then
      if (x :: B).length < 8 ∨ (x :: B).length < 8 + nn (x :: B) then (none, x :: B, 0)
      else if sumv (bodyAt (x :: B) (nn (x :: B))) = tS (x :: B) then (some (bodyAt (x :: B) (nn (x :: B))), (x :: B).drop (8 + nn (x :: B)), 0)
      else ((nx B).1, (nx B).2.1, (nx B).2.2 + 1)
    else ((nx B).1, (nx B).2.1, (nx B).2.2 + 1)
def skips (l : List Int) : Prop := bgn l = false ∨ (8 ≤ l.length ∧ 8 + nn l ≤ l.length ∧ sumv (bodyAt l (nn l)) ≠ tS l)
theorem nx_skip (x : Int) (B : List Int) (h : skips (x :: B)) : nx (x :: B) = ((nx B).1, (nx B).2.1, (nx B).2.2 + 1) := by
  rw [nx]
  rcases h with h | ⟨h1, h2, h3⟩
  · rw [if_neg (by rw [h]; decide)]
  · by_cases hb : bgn (x :: B) = true
    · rw [if_pos hb, if_neg (by omega), if_neg h3]
    · rw [if_neg hb]
theorem nx_wait (l : List Int) (h0 : l ≠ []) (h : bgn l = true) (h1 : l.length < 8 ∨ l.length < 8 + nn l) : nx l = (none, l, 0) := by
  cases l with
  | nil => exact absurd rfl h0
  | cons x B => rw [nx, if_pos h, if_pos h1]
theorem nx_found (l : List Int) (h0 : l ≠ []) (h : bgn l = true) (h1 : 8 ≤ l.length) (h2 : 8 + nn l ≤ l.length) (h3 : sumv (bodyAt l (nn l)) = tS l) : nx l = (some (bodyAt l (nn l)), l.drop (8 + nn l), 0) := by
  cases l with
  | nil => exact absurd rfl h0
  | cons x B => rw [nx, if_pos h, if_neg (by omega), if_pos h3]
theorem bgn_long (l : List Int) (hb : Bytes l) (h : bgn l = true) (h4 : 4 ≤ l.length) : 1 ≤ nn l ∧ nn l ≤ 512 ∧ tN l = (nn l : Int) ∧ rd l 0 = 102 ∧ rd l 1 = 76 := by
  match l, hb, h4 with
  | a :: b :: c :: d :: l, hb, _ =>
    have hc := hb c (by simp)
    have hd := hb d (by simp)
    have ht := tN_is (a :: b :: c :: d :: l) (by rw [rd_2]; exact hc) (by rw [rd_3]; exact hd)
    rw [rd_2, rd_3] at ht
    simp only [bgn, decide_eq_true_eq] at h
    have : nn (a :: b :: c :: d :: l) = (c * 256 + d).toNat := by unfold nn; rw [ht]
    rw [this, ht, rd_0, rd_1]
    omega
end Go.Proofs.Ytpkgpapdmjapmaa.Pure

namespace Go.Proofs.Ytpkgpapdmjapmaa.Fns
open Go.RowKit Go.Proofs.YtpkgpapdmjapmaaW.PrintWords Go.Proofs.YtpkgpapdmjapmaaW.PrintLast Go.Proofs.YtpkgpapdmjapmaaW.PrintMore Go.Proofs.Ytpkgpapdmjapmaa.SumMath Go.Proofs.Ytpkgpapdmjapmaa.Pure
set_option linter.unusedVariables false
set_option linter.unusedSimpArgs false

def lenAt (w : World) (g : Nat) : Nat := match w.cell? ⟨g, 0, none⟩ with
  | some (.slice _ n _) => n
  | _ => 0
theorem lenAt_is {w : World} {g n c : Nat} {A : Option Addr} (h : w.cell? ⟨g, 0, none⟩ = some (.slice A n c)) : lenAt w g = n := by unfold lenAt; rw [h]
theorem lenAt_drewN (w : World) (g n : Nat) : lenAt (w.drewN n) g = lenAt w g := rfl
theorem Rd.lenAt {ok : Nat → Prop} {base g : Nat} {w : World} {B : List Int} {lost : Int} (h : Rd ok base w g B lost) : lenAt w g = B.length := by
  obtain ⟨_, v, hb, hq⟩ := h
  obtain ⟨A, c, rfl, _⟩ := Kd.Q_slice hq
  exact lenAt_is ((blk_cell hb 0).trans rfl)
/-- a reader, opened. -/
theorem Rd.open_ {ok : Nat → Prop} {base g : Nat} {w : World} {B : List Int} {lost : Int} (h : Rd ok base w g B lost) :
    ∃ A c, w.heap[g]? = some (.cells #[.slice A B.length c, .int .i64 lost] 32 (0, 0)) ∧ (Kd.int .u8).Q 5 w base ok (.slice A B.length c) B ∧ B.length ≤ c ∧ Kd.C (Kd.int .u8) w A B.length B := by
  obtain ⟨_, v, hb, hq⟩ := h
  obtain ⟨A, c, rfl, hl⟩ := Kd.Q_slice hq
  exact ⟨A, c, hb, hq, hl, (Kd.Q_reads' hq).2.2⟩

set_option maxRecDepth 100000 in
theorem front_short (A0 : Option Addr) (c0 : Nat) (l0 : List Int) (w : World) (h8 : l0.length < 8) :
    Calls Try.prog 24 #[.slice A0 l0.length c0] w fun e w' => e = .returned (.tuple #[.slice none 0 0, .bool false]) ∧ Below w.heap.size w w' := by
  have d0 : decide ((l0.length : Int) < 8) = true := decide_eq_true (by omega)
  go_enter Try.func24, Try.ntmps24
  go_wp2
  go_ret2
  exact ⟨rfl, Below.refl _ _⟩
theorem body_bytes {l : List Int} (h : Bytes l) (n : Nat) : Bytes (bodyAt l n) := fun x hx => h x (List.mem_of_mem_take (List.mem_of_mem_drop hx))
theorem body_length (l : List Int) (n : Nat) (h : 8 + n ≤ l.length) : (bodyAt l n).length = n := by unfold bodyAt; simp; omega
theorem front_any (A0 : Option Addr) (c0 : Nat) (l0 : List Int) (w : World) (hr0 : Kd.C (Kd.int .u8) w A0 l0.length l0) (hc0 : l0.length ≤ c0) (hb : Bytes l0) (hg : bgn l0 = true) (h8 : 8 ≤ l0.length) :
    Calls Try.prog 24 #[.slice A0 l0.length c0] w fun e w' => Below w.heap.size w w' ∧ ∃ v b, e = .returned (.tuple #[v, .bool b]) ∧ ((l0.length < 8 + nn l0 ∧ v = .slice none 0 0 ∧ b = false) ∨ (8 + nn l0 ≤ l0.length ∧ sumv (bodyAt l0 (nn l0)) ≠ tS l0 ∧ v = .slice none 0 0 ∧ b = true) ∨
      (8 + nn l0 ≤ l0.length ∧ sumv (bodyAt l0 (nn l0)) = tS l0 ∧ b = true ∧ ∃ A c, v = .slice (some A) (nn l0) c ∧ nn l0 ≤ c ∧ Kd.C (Kd.int .u8) w (some A) (nn l0) (bodyAt l0 (nn l0)))) := by
  obtain ⟨n1, n2, n3, _, _⟩ := bgn_long l0 hb hg (by omega)
  refine (front_calls 600 (nn l0) A0 c0 l0 w hr0 hc0 h8 n3 n1 n2 (nn l0 : Int) (sumv (bodyAt l0 (nn l0))) (fun hl => ?_)).mono ?_
  · have := frame_of_is (bodyAt l0 (nn l0)) (body_bytes hb _) (by rw [body_length _ _ hl]; omega) 600 (by rw [body_length _ _ hl]; omega)
    rw [body_length _ _ hl] at this
    exact this
  · rintro e w' ⟨h1, v, b, h2, h3⟩
    refine ⟨h1, v, b, h2, ?_⟩
    rw [n3] at h3
    rcases h3 with h3 | ⟨a1, a2, a3⟩ | ⟨a1, a2, a3⟩
    · exact .inl h3
    · exact .inr (.inl ⟨a1, fun h => a2 (by rw [h]), a3⟩)
    · exact .inr (.inr ⟨a1, (Prod.mk.inj a2).2, a3⟩)
theorem front_wait (A0 : Option Addr) (c0 : Nat) (l0 : List Int) (w : World) (hr0 : Kd.C (Kd.int .u8) w A0 l0.length l0) (hc0 : l0.length ≤ c0) (hb : Bytes l0) (hg : bgn l0 = true) (h : l0.length < 8 ∨ l0.length < 8 + nn l0) :
    Calls Try.prog 24 #[.slice A0 l0.length c0] w fun e w' => e = .returned (.tuple #[.slice none 0 0, .bool false]) ∧ Below w.heap.size w w' := by
  by_cases h8 : l0.length < 8
  · exact front_short A0 c0 l0 w h8
  · refine (front_any A0 c0 l0 w hr0 hc0 hb hg (by omega)).mono ?_
    rintro e w' ⟨h1, v, b, rfl, ⟨_, rfl, rfl⟩ | ⟨a1, _⟩ | ⟨a1, _⟩⟩
    · exact ⟨rfl, h1⟩
    · omega
    · omega
theorem front_bad (A0 : Option Addr) (c0 : Nat) (l0 : List Int) (w : World) (hr0 : Kd.C (Kd.int .u8) w A0 l0.length l0) (hc0 : l0.length ≤ c0) (hb : Bytes l0) (hg : bgn l0 = true) (h8 : 8 ≤ l0.length) (hl : 8 + nn l0 ≤ l0.length) (hs : sumv (bodyAt l0 (nn l0)) ≠ tS l0) :
    Calls Try.prog 24 #[.slice A0 l0.length c0] w fun e w' => e = .returned (.tuple #[.slice none 0 0, .bool true]) ∧ Below w.heap.size w w' := by
  refine (front_any A0 c0 l0 w hr0 hc0 hb hg h8).mono ?_
  rintro e w' ⟨h1, v, b, rfl, ⟨a1, _⟩ | ⟨_, _, rfl, rfl⟩ | ⟨_, a1, _⟩⟩
  · omega
  · exact ⟨rfl, h1⟩
  · exact absurd a1 hs
theorem front_good (A0 : Option Addr) (c0 : Nat) (l0 : List Int) (w : World) (hr0 : Kd.C (Kd.int .u8) w A0 l0.length l0) (hc0 : l0.length ≤ c0) (hb : Bytes l0) (hg : bgn l0 = true) (h8 : 8 ≤ l0.length) (hl : 8 + nn l0 ≤ l0.length) (hs : sumv (bodyAt l0 (nn l0)) = tS l0) :
    Calls Try.prog 24 #[.slice A0 l0.length c0] w fun e w' => ∃ A c, e = .returned (.tuple #[.slice (some A) (nn l0) c, .bool true]) ∧ nn l0 ≤ c ∧ Kd.C (Kd.int .u8) w (some A) (nn l0) (bodyAt l0 (nn l0)) ∧ Below w.heap.size w w' := by
  refine (front_any A0 c0 l0 w hr0 hc0 hb hg h8).mono ?_
  rintro e w' ⟨h1, v, b, rfl, ⟨a1, _⟩ | ⟨_, a1, _⟩ | ⟨_, _, rfl, A, c, rfl, a2, a3⟩⟩
  · omega
  · exact absurd hs a1
  · exact ⟨A, c, rfl, a2, a3, h1⟩

theorem skip_end {ok : Nat → Prop} {base g : Nat} {w wr wf : World} {B B1 : List Int} {lost lost1 : Int} {v0 : Value} {A9 : Option Addr} {c9 : Nat}
    (hbg : base ≤ g) (hblk : wf.heap[g]? = some (.cells #[v0, .int .i64 lost1] 32 (0, 0))) (hqd : (Kd.int .u8).Q 5 wf base ok (.slice A9 (B1.length - 1) c9) (B1.drop 1)) (hk : Kp (fun k => k = g) w wf)
    (hN : Bytes B1 ∧ B1.length ≤ 1000000 ∧ 0 ≤ lost1 ∧ lost1 + B1.length ≤ 2000000) (hE : (nx B).1 = (nx B1).1 ∧ (nx B).2.1 = (nx B1).2.1 ∧ lost + ((nx B).2.2 : Int) = lost1 + ((nx B1).2.2 : Int))
    (hs : skips B1) (hp : 0 < B1.length) (hlen : lenAt wr g = B1.length) :
    ((Value.slice none 0 0 = Value.slice none 0 0 ∧ ∃ (B2 : List Int) (lost2 : Int), Aside0 (Rd ok base ((wf.setCell ⟨g, 0, none⟩ (.slice A9 (B1.length - 1) c9)).setCell ⟨g, 1, none⟩ (.int .i64 (wrap64 (lost1 + 1)))) g B2 lost2) ∧
      Aside0 (Kp (fun k => k = g) w ((wf.setCell ⟨g, 0, none⟩ (.slice A9 (B1.length - 1) c9)).setCell ⟨g, 1, none⟩ (.int .i64 (wrap64 (lost1 + 1))))) ∧ Aside0 (Bytes B2 ∧ B2.length ≤ 1000000 ∧ 0 ≤ lost2 ∧ lost2 + B2.length ≤ 2000000) ∧
      Aside0 ((nx B).1 = (nx B2).1 ∧ (nx B).2.1 = (nx B2).2.1 ∧ lost + ((nx B).2.2 : Int) = lost2 + ((nx B2).2.2 : Int))) ∧
      lenAt ((wf.setCell ⟨g, 0, none⟩ (.slice A9 (B1.length - 1) c9)).setCell ⟨g, 1, none⟩ (.int .i64 (wrap64 (lost1 + 1)))) g < lenAt wr g) := by
  have hw : wrap64 (lost1 + 1) = lost1 + 1 := IntWalk.wrap64_in _ (by omega)
  rw [hw]
  have hR := (Rd.set_row hbg hblk hqd).set_lost (lost1 + 1)
  refine ⟨⟨rfl, B1.drop 1, lost1 + 1, ⟨hR⟩, ⟨(hk.set g 0 _ rfl).set g 1 _ rfl⟩, ⟨fun x hx => hN.1 x (List.mem_of_mem_drop hx), by rw [List.length_drop]; omega, by omega, by rw [List.length_drop]; omega⟩, ?_⟩, ?_⟩
  · cases B1 with
    | nil => simp at hp
    | cons x B1 =>
      rw [nx_skip x B1 hs] at hE
      refine ⟨hE.1, hE.2.1, ?_⟩
      have := hE.2.2
      simp only [List.drop_succ_cons, List.drop_zero] at *
      omega
  · rw [hR.lenAt, hlen, List.length_drop]
    omega

set_option maxHeartbeats 8000000 in
set_option maxRecDepth 100000 in
theorem next_calls (ok : Nat → Prop) (base g : Nat) (B : List Int) (lost : Int) (w : World) (hI : Rd ok base w g B lost) (hb : Bytes B) (hB : B.length ≤ 1000000) (hl0 : 0 ≤ lost) (hl1 : lost ≤ 1000000) :
    Calls Try.prog 14 #[.pointer (some ⟨g, 0, none⟩)] w fun e w' => ∃ v, e = .returned (.tuple #[v, .bool (nx B).1.isSome]) ∧ Rd ok base w' g (nx B).2.1 (lost + ((nx B).2.2 : Int)) ∧ Kp (fun k => k = g) w w' ∧
      ((nx B).1 = none → v = .slice none 0 0) ∧ (∀ bd, (nx B).1 = some bd → Kd.R (Kd.int .u8) 5 w' w.heap.size (fun _ => True) v bd) := by
  have HI := Aside0.mk hI
  have HB := Aside0.mk hb
  have HL := Aside0.mk (And.intro hB (And.intro hl0 hl1))
  have hgw := Aside0.mk hI.lt
  clear hI hb hB hl0 hl1
  have hnil := fun (W : World) (a : Option Addr) (n c : Nat) => run_neq_slice_nil_any (P := Try.prog) W 22 5 a n c 0 0 Try.underlying22
  go_enter Try.func14, Try.ntmps14
  go_wp2_with fail
  go_step3
  go_wp2_with fail
  go_step3
  go_wp2_with fail
  go_loopw [4] (fun v4 wr => v4 = .slice none 0 0 ∧ ∃ (B1 : List Int) (lost1 : Int), Aside0 (Rd ok base wr g B1 lost1) ∧ Aside0 (Kp (fun k => k = g) w wr) ∧ Aside0 (Bytes B1 ∧ B1.length ≤ 1000000 ∧ 0 ≤ lost1 ∧ lost1 + B1.length ≤ 2000000) ∧ Aside0 ((nx B).1 = (nx B1).1 ∧ (nx B).2.1 = (nx B1).2.1 ∧ lost + ((nx B).2.2 : Int) = lost1 + ((nx B1).2.2 : Int))) (fun _ wr => lenAt wr g)
  case atStart =>
    exact ⟨rfl, B, lost, ⟨by first | exact HI.out | exact HI.out.drewN _⟩, ⟨by first | exact Kp.refl _ _ | exact (Kp.refl _ _).drewN _⟩, ⟨HB.out, by have := HL.out; omega, by have := HL.out; omega, by have := HL.out; omega⟩, ⟨rfl, rfl, rfl⟩⟩
  case round =>
    obtain ⟨rfl, B1, lost1, HR, HK, HN, HE⟩ := hrel
    clear HI HB HL
    obtain ⟨A, c, hblk, hq, hlc, hC⟩ := HR.out.open_
    have HQ := Aside0.mk hq
    have HC := Aside0.mk hC
    have HLC := Aside0.mk hlc
    have HBK := Aside0.mk hblk
    have h0 : wr.cell? ⟨g, 0, none⟩ = some (.slice A B1.length c) := (blk_cell hblk 0).trans rfl
    have h1 : wr.cell? ⟨g, 1, none⟩ = some (.int .i64 lost1) := (blk_cell hblk 1).trans rfl
    have hf0 := blk_frozen hblk 0
    have hf1 := blk_frozen hblk 1
    have hlen := Aside0.mk HR.out.lenAt
    clear hblk hq hlc hC
    by_cases hn : B1 = []
    · have d0 : decide ((B1.length : Int) > 0) = false := decide_eq_false (by rw [hn]; simp)
      have d0' : decide ((0 : Int) < (B1.length : Int)) = false := decide_eq_false (by rw [hn]; simp)
      have d1' : decide (0 < B1.length) = false := decide_eq_false (by rw [hn]; simp)
      have HX := Aside0.mk (show nx B1 = (none, B1, 0) by rw [hn]; rfl)
      clear hn
      go_wp2
      simp only [Exit.noGoto_ret]
      go_ret2
      refine ⟨_, by rw [HE.out.1, HX.out]; rfl, ?_, HK.out, fun _ => rfl, fun bd hbd => ?_⟩
      · rw [HE.out.2.1, HE.out.2.2, HX.out]
        simpa using HR.out
      · rw [HE.out.1, HX.out] at hbd
        cases hbd
    · have hp : 0 < B1.length := List.length_pos_iff.2 hn
      have d0' : decide ((0 : Int) < (B1.length : Int)) = true := decide_eq_true (by omega)
      have d1' : decide (0 < B1.length) = true := decide_eq_true (by omega)
      have hbg := begins_is B1 HN.out.1 1
      cases hbb : bgn B1 with
      | false =>
        rw [hbb] at hbg
        have HBG := Aside0.mk hbg
        clear hbg
        obtain ⟨i0, hi0, _, hsz0, _⟩ := info_parts info5
        have hcut := cut_from (P := Try.prog) 22 5 .i64 Try.underlying22 hi0 1 hsz0 A B1.length c 1 (by omega) (by omega)
        have hqd := Kd.Q_drop (k := 1) HQ.out (by omega)
        have e1 : (1 : Int).toNat = 1 := rfl
        rw [e1] at hcut
        have e2 : (Kd.int .u8).sz = 1 := rfl
        rw [e2] at hqd
        generalize (if c = 1 then A else A.map (·.add (1 * 1))) = A9 at hcut hqd
        have HQD := Aside0.mk hqd
        clear hqd hi0 hsz0 e1 e2
        go_wp2_with fail
        refine (frame_begins.calls 2 A c B1 false _ HC.out HLC.out HBG.out).mono ?_
        rintro e w' ⟨rfl, ⟨⟨nd, rfl⟩⟩⟩
        go_wp2_with fail
        exact skip_end HR.out.1 (blk_drewN HBK.out nd) (Kd.Q_drewN HQD.out nd) (HK.out.drewN nd) HN.out HE.out (.inl hbb) hp hlen.out
      | true =>
        rw [hbb] at hbg
        have HBG := Aside0.mk hbg
        clear hbg
        by_cases hw : B1.length < 8 ∨ B1.length < 8 + nn B1
        · go_wp2_with fail
          refine (frame_begins.calls 2 A c B1 true _ HC.out HLC.out HBG.out).mono ?_
          rintro e w' ⟨rfl, ⟨⟨nd, rfl⟩⟩⟩
          go_wp2_with fail
          refine (front_wait A c B1 _ (Kd.C_drewN HC.out nd) HLC.out HN.out.1 hbb hw).mono ?_
          rintro e w2 ⟨rfl, hb2⟩
          have HB2 := Aside0.mk hb2
          clear hb2
          go_wp2
          have hx := nx_wait B1 hn hbb hw
          simp only [Exit.noGoto_ret]
          go_ret2
          refine ⟨_, by rw [HE.out.1, hx]; rfl, ?_, (HK.out.drewN nd).trans (Kp.of_below (S := fun _ => False) HB2.out) (fun _ h => h.elim), fun _ => rfl, fun bd hbd => ?_⟩
          · rw [HE.out.2.1, HE.out.2.2, hx]
            simpa using (HR.out.drewN nd).below HB2.out
          · rw [HE.out.1, hx] at hbd
            cases hbd
        · have h8 : 8 ≤ B1.length := by omega
          have hl8 : 8 + nn B1 ≤ B1.length := by omega
          obtain ⟨n1, n2, _, _, _⟩ := bgn_long B1 HN.out.1 hbb (by omega)
          by_cases hs : sumv (bodyAt B1 (nn B1)) = tS B1
          · go_wp2_with fail
            refine (frame_begins.calls 2 A c B1 true _ HC.out HLC.out HBG.out).mono ?_
            rintro e w' ⟨rfl, ⟨⟨nd, rfl⟩⟩⟩
            go_wp2_with fail
            refine (front_good A c B1 _ (Kd.C_drewN HC.out nd) HLC.out HN.out.1 hbb h8 hl8 hs).mono ?_
            rintro e w2 ⟨A2, c2, rfl, hl2, hc2, hb2⟩
            have HB2 := Aside0.mk hb2
            have HC2 := Aside0.mk (Kd.C_below hc2 hb2)
            have HL2 := Aside0.mk hl2
            have hbl := blk_below (blk_drewN HBK.out nd) hb2
            have HBK2 := Aside0.mk hbl
            have HX := Aside0.mk (nx_found B1 hn hbb h8 hl8 hs)
            clear hb2 hc2 hl2 hs h0 h1 hf0 hf1 hbl
            obtain ⟨i0, hi0, _, hsz0, _⟩ := info_parts info5
            have hcut := cut_from (P := Try.prog) 22 5 .i64 Try.underlying22 hi0 1 hsz0 A B1.length c (8 + (nn B1 : Int)) (by omega) (by omega)
            have hqd := Kd.Q_drop (k := 8 + nn B1) HQ.out (by omega)
            have e1 : (8 + (nn B1 : Int)).toNat = 8 + nn B1 := by omega
            rw [e1] at hcut
            have e2 : (Kd.int .u8).sz = 1 := rfl
            rw [e2] at hqd
            generalize (if c = 8 + nn B1 then A else A.map (·.add ((8 + nn B1) * 1))) = A9 at hcut hqd
            have HQD := Aside0.mk hqd
            clear hqd hi0 hsz0 e1 e2
            go_wp2_with (first
              | ((with_reducible refine gate_dst (N := 30) rfl ?_); refine Kd.R_lit (Kd.int .u8) (w0 := w2) w2.heap.size 5 ?hg (N := 30) ?hd (xs := ([] : List Int)) (inner := []) (ok := fun _ => True) (okp := fun _ => True) ?hr ?hp (fun _ hk => hk) trivial (Below.refl _ _) (Nat.le_refl _) (by simp) ?_; (case hd => rfl); (case hg => rfl); (case hr => first | (go_simp; done) | (go_simp; rfl)); (case hp => exact Reps.none _ _); intro v30 w30 ho30 hb30 hg30 hn30; have HO30 := Aside0.mk ho30; have HB30 := Aside0.mk hb30; clear ho30 hb30 hg30 hn30)
              | ((with_reducible refine gate_dst (N := 32) rfl ?_); refine Kd.R_append_rows (Kd.int .u8) (Rr := (Kd.int .u8).K w30) (w0 := w2) w2.heap.size rfl (.tmp 30) (.tmp 31) 22 5 (.int .u8 0) 1 rfl Try.underlying22 info5 rfl (by decide) (by decide) v30 [] (bodyAt B1 (nn B1)) (some A2) (nn B1) c2 (fun _ => True) (fun _ => False) rfl rfl ?aO ?aR (fun _ _ h => h) (fun _ h => h.elim) ?aF ?aB ?aS ?aL ?_; (case aR => exact Kd.C_below HC2.out HB30.out); (case aB => exact HB30.out); (case aF => exact fun _ _ => trivial); (case aO => exact HO30.out); (case aS => exact HB30.out.size); (case aL => simp; omega); intro v32 w32 ho32 hb32 hg32 hat32; have hbl32 := blk_below HBK2.out hb32; have HBK32 := Aside0.mk hbl32; have k0 : w32.cell? ⟨g, 0, none⟩ = some (.slice A B1.length c) := (blk_cell hbl32 0).trans rfl; have kf0 := blk_frozen hbl32 0; obtain ⟨A32, c32, rfl⟩ := Kd.R_slice ho32; have HO32 := Aside0.mk ho32; have HB32 := Aside0.mk hb32; clear ho32 hb32 hg32 hat32 hbl32))
            have HO : Kd.R (Kd.int .u8) 5 w32 w2.heap.size (fun _ => True) (.slice A32 (bodyAt B1 (nn B1)).length c32) (bodyAt B1 (nn B1)) := HO32.out
            obtain ⟨a3, rfl, _⟩ := ((Kd.R_reads' HO).2.2).2.2 (by rw [body_length _ _ hl8]; omega)
            simp only [Exit.noGoto_ret]
            go_ret2
            have hk2 : Kp (fun k => k = g) w w2 := (HK.out.drewN nd).trans (Kp.of_below (S := fun _ => False) HB2.out) (fun _ h => h.elim)
            have hq2 := Kd.Q_below (Kd.Q_below (Kd.Q_drewN HQD.out nd) HB2.out) HB32.out
            refine ⟨_, by rw [HE.out.1, HX.out]; rfl, ?_, (hk2.trans (Kp.of_below (S := fun _ => False) HB32.out) (fun _ h => h.elim)).set g 0 _ rfl, fun h => ?_, fun bd hbd => ?_⟩
            · rw [HE.out.2.1, HE.out.2.2, HX.out]
              have := Rd.set_row HR.out.1 HBK32.out hq2
              simpa using this
            · rw [HE.out.1, HX.out] at h
              cases h
            · rw [HE.out.1, HX.out] at hbd
              injection hbd with hbd
              subst hbd
              exact Kd.R_lower (Kd.R_set HO HBK32.out q_types5 0 _) hk2.size
          · have hsk : skips B1 := .inr ⟨h8, hl8, hs⟩
            have HSK := Aside0.mk hsk
            go_wp2_with fail
            refine (frame_begins.calls 2 A c B1 true _ HC.out HLC.out HBG.out).mono ?_
            rintro e w' ⟨rfl, ⟨⟨nd, rfl⟩⟩⟩
            go_wp2_with fail
            refine (front_bad A c B1 _ (Kd.C_drewN HC.out nd) HLC.out HN.out.1 hbb h8 hl8 hs).mono ?_
            rintro e w2 ⟨rfl, hb2⟩
            have HB2 := Aside0.mk hb2
            have hbl := blk_below (blk_drewN HBK.out nd) hb2
            have HBK2 := Aside0.mk hbl
            have k0 : w2.cell? ⟨g, 0, none⟩ = some (.slice A B1.length c) := (blk_cell hbl 0).trans rfl
            have k1 : w2.cell? ⟨g, 1, none⟩ = some (.int .i64 lost1) := (blk_cell hbl 1).trans rfl
            have kf0 := blk_frozen hbl 0
            have kf1 := blk_frozen hbl 1
            clear hb2 hbl h0 h1 hf0 hf1 hs hsk
            obtain ⟨i0, hi0, _, hsz0, _⟩ := info_parts info5
            have hcut := cut_from (P := Try.prog) 22 5 .i64 Try.underlying22 hi0 1 hsz0 A B1.length c 1 (by omega) (by omega)
            have hqd := Kd.Q_drop (k := 1) HQ.out (by omega)
            have e1 : (1 : Int).toNat = 1 := rfl
            rw [e1] at hcut
            have e2 : (Kd.int .u8).sz = 1 := rfl
            rw [e2] at hqd
            generalize (if c = 1 then A else A.map (·.add (1 * 1))) = A9 at hcut hqd
            have HQD := Aside0.mk hqd
            clear hqd hi0 hsz0 e1 e2
            go_wp2_with fail
            exact skip_end HR.out.1 HBK2.out (Kd.Q_below (Kd.Q_drewN HQD.out nd) HB2.out) ((HK.out.drewN nd).trans (Kp.of_below (S := fun _ => False) HB2.out) (fun _ h => h.elim)) HN.out HE.out HSK.out hp hlen.out

end Go.Proofs.Ytpkgpapdmjapmaa.Fns
