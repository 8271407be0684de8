/- The document's tables: Close. -/
import Derived.Test.YtlohaefhigbdjaaFdsRef2
namespace Go.Proofs.Ytlohaefhigbdjaa.Fds
open Go.RowKit Go.Proofs.YtlohaefhigbdjaaW.PrintWords Go.Proofs.YtlohaefhigbdjaaW.PrintLast Go.Proofs.YtlohaefhigbdjaaW.PrintMore
set_option linter.unusedVariables false
set_option linter.unusedSimpArgs false

section
variable {P : Program} {ops : Array Oper} {o : Oper} {a : Act} {Q : Exit → Act → World → Prop} {Kc : Act → World → Prop}
/-- append(v, ys...) of ints, as one step of a region that draws its order. -/
theorem app_step {w0 W : World} (B : Nat) (hg : o.guard = none) (s x : Operand)
    (ho : o.op = .call { callee := .builtin .append, args := #[s, x], argTypes := #[36, 36] }) (hP : P = Try.prog)
    (v : Value) (xs ys : List Int) (A : Option Addr) (m c : Nat) (ok : Nat → Prop) (hs : a.eval s = v) (hx : a.eval x = .slice A m c) (hfresh : ∀ k, W.heap.size ≤ k → ok k)
    (HO : Kd.R (Kd.int .i64) 3 W B ok v xs) (HC : Kd.C (Kd.int .i64) W A m ys) (HB : Below B w0 W) (hB : B ≤ W.heap.size) (hl : xs.length + m ≤ 1000)
    (h : ∀ v1 w1, Kd.R (Kd.int .i64) 3 w1 B ok v1 (xs ++ ys) → Below B w0 w1 → W.grownBy w1 v.ownBlock → (v1.ownBlock = v.ownBlock ∨ ∃ b, v1.ownBlock = some b ∧ W.heap.size ≤ b) → Kc (a.put o.dst v1) w1) (E : Prop) :
    if Region.wanted o (yielded ops a.tmps) = true then Oper.wp P o a W Kc Q else E := by
  subst hP
  have hw : Region.wanted o (yielded ops a.tmps) = true := by simp [Region.wanted, hg]
  have := Kd.R_append_rows_step (P := Try.prog) (ops := ops) (Q := Q) (Kc := Kc) (Kd.int .i64) (Rr := (Kd.int .i64).K W) (w0 := w0) B hw s x 36 3 (.int .i64 0) 8 ho Try.underlying36 info3 rfl (by decide) (by decide) v xs ys A m c ok (fun _ => False) hs hx HO HC (fun x cs hk => hk) (fun _ hk => hk.elim) hfresh HB hB (by omega) h
  rw [if_pos hw] at this ⊢
  exact this
end
theorem lit_none (W : World) (B N : Nat) (ok : Nat → Prop) (hN : W.heap.size = N) (hB : B ≤ N) (hok : ok N) : Kd.R (Kd.int .i64) 3 (W.alloc (.cells #[] 3)) B ok (.slice (some ⟨N, 0, none⟩) 0 0) [] := by
  subst hN
  refine Kd.R_of_own ?_ (fun k hk => ?_)
  · have := World.ownsRow_lit (base := B) (e := 3) (size := 1) W #[] 0 hB (by simp) (by simp)
    simpa [encs] using this
  · have : W.heap.size = k := by simpa [Value.ownBlock] using hk
    subst this
    exact hok

/-- Where an owned row that is not empty lies. -/
theorem head_of {w : World} {B : Nat} {ok : Nat → Prop} {A : Option Addr} {n c : Nat} {F : List Int} (h : Kd.R (Kd.int .i64) 3 w B ok (.slice A n c) F) (hn : 0 < n) : ∃ b, A = some ⟨b, 0, none⟩ := by
  obtain ⟨_, inner, ho, _⟩ := h
  rcases ho.2 with ⟨e, _⟩ | ⟨b, cap, cur, e, _⟩
  · injection e with _ e2 _
    omega
  · injection e with e1 _ _
    exact ⟨b, e1⟩

set_option maxHeartbeats 8000000 in
set_option maxRecDepth 100000 in
theorem rclose_in (w : World) (B r : Nat) (g : Nat → Prop) (F L : List Int) (x : Int) (h : Ref w B r g F L) (hB : B ≤ w.heap.size) (hi : rI F x = true) :
    Calls Try.prog 18 #[.pointer (some ⟨r, 0, none⟩), .int .i64 x] w fun e w' => e = .returned (.int .i64 0) ∧ RTurned w B r g (F.take (at_ F x) ++ F.drop (at_ F x + 1)) (L.take (at_ F x) ++ L.drop (at_ F x + 1)) w' := by
  obtain ⟨vF, vV, hra, hlen, hsm⟩ := h
  have hsp := at_spec F x
  have him : at_ F x < F.length := by simpa [rI] using hi
  generalize hm : at_ F x = m at *
  have HRA := Aside0.mk hra
  have HL := Aside0.mk hlen
  have HSM := Aside0.mk hsm
  have HS := Aside0.mk hsp
  have HBB := Aside0.mk hB
  have k0 := hra.cell0
  have k1 := hra.cell1
  obtain ⟨A, c, e⟩ := Kd.R_slice hra.f
  subst e
  obtain ⟨A', c', e'⟩ := Kd.R_slice hra.v
  subst e'
  rw [← hlen] at HRA k1
  have hn0 : 0 < F.length := by omega
  obtain ⟨b, rfl⟩ := head_of hra.f hn0
  obtain ⟨b', rfl⟩ := head_of hra.v (by omega)
  have hcap := (Kd.R_reads' hra.f).2.1
  have hcap' := (Kd.R_reads' hra.v).2.1
  rw [← hlen] at hcap'
  have HC1 := Aside0.mk (Kd.R_reads' hra.f).2.2
  have HC2 := Aside0.mk (Kd.R_reads' hra.v).2.2
  have HIM := Aside0.mk him
  clear hra hlen hsm hsp hB hi hm
  obtain ⟨n, hn⟩ : ∃ n, n = F.length := ⟨_, rfl⟩
  have HN := Aside0.mk hn
  have q9 : m < n := by omega
  have q10 : n ≤ 20 := by have := HSM.out; omega
  have q5 : n ≤ c := by omega
  have q6 : n ≤ c' := by omega
  rw [← hn] at k0 k1 HRA
  clear hn him hn0 hcap hcap'
  go_enter Try.func18, Try.ntmps18
  go_wp2_with fail
  go_loop [5] (fun i => ∃ k : Nat, k ≤ m ∧ i = .int .i64 k) (fun i => n + 1 - (intOf i).toNat)
  case atStart => exact ⟨0, by omega, rfl⟩
  case round =>
    obtain ⟨k, hk, rfl⟩ := hrel
    have q0 : (0 : Int) ≤ (k : Int) := by omega
    have q1 : (k : Int) < (n : Int) := by omega
    obtain ⟨ad, e, hc⟩ := Kd.at_int HC1.out (k : Int) q0 (by have := HN.out; omega)
    cases e
    simp only [Int.toNat_natCast] at hc
    rw [Go.Proofs.YtlohaefhigbdjaaW.PrintWords.add_plain] at hc
    by_cases hkm : k < m
    · have hne := HS.out.1 k hkm
      have e1 : (rd F (k : Int) == x) = false := by simpa [rd] using hne
      generalize rd F (k : Int) = y at *
      go_wp2_with fail
      go_round
      case rel => exact ⟨k + 1, by omega, by go_num⟩
      case measure => simp [intOf]; omega
    · obtain rfl : m = k := by omega
      have heq := HS.out.2.1 HIM.out
      have e1 : rd F (m : Int) = x := by simpa [rd] using heq
      rw [e1] at hc
      clear e1 heq hkm hk HS
      go_upto_region 5 with (fail)
      (try simp only [Act.put, List.setIfInBounds_toArray, List.set_cons_zero, List.set_cons_succ])
      go_cut [5] (fun v5 wq => v5 = .int .i64 m ∧ Aside0 (∃ v1, RefAt wq B r g v1 (.slice (some ⟨b', 0, none⟩) n c') (F.take m ++ F.drop (m + 1)) L) ∧ Aside0 (Below B w wq) ∧ Aside0 (∀ k, g k → wq.heap[k]? = w.heap[k]?))
      case first =>
        have q3 : (m : Int) + 1 ≤ (n : Int) := by omega
        have q4 : (n : Int) ≤ (c : Int) := by omega
        have q7 : (m : Int) ≤ (c : Int) := by omega
        have HT1 : Aside0 (Kd.C (Kd.int .i64) w (some ⟨b, 0, none⟩) m (F.take m)) := ⟨by have := Kd.C_take HC1.out (m := m) (by have := HIM.out; omega); rwa [List.length_take, Nat.min_eq_left (by have := HIM.out; omega)] at this⟩
        by_cases hcm : c = m + 1
        ·
            have HT2 : Aside0 (Kd.C (Kd.int .i64) w (some ⟨b, 0, none⟩) 0 (F.drop (m + 1))) := ⟨by
              have := Kd.C_drop HC1.out (m := m + 1) (c := c) (by have := HIM.out; have := HL.out; omega) (by have := HN.out; have := HL.out; omega)
              rw [if_pos hcm, List.length_drop, ← HN.out] at this
              have e0 : n - (m + 1) = 0 := by omega
              rwa [e0] at this⟩
            subst hcm
            have q13 : (m : Int) ≤ (m : Int) + 1 := by omega
            have q14 : (n : Int) ≤ (m : Int) + 1 := by omega
            have hwr : IntKind.i64.wrap ((m : Int) + 1) = (m : Int) + 1 := IntWalk.i64_in _ (by omega)
            have q11 : (0 : Int) ≤ (m : Int) + 1 := by omega
            have q12 : ((m : Int) + 1).toNat = m + 1 := by omega
            have hal := pw_cell_below (below_alloc (Below.refl _ w) (.cells #[] 3)) k0
            go_region_law (first
              | ((refine app_step (w0 := w) w.heap.size (by rfl) (.tmp 25) (.tmp 31) (by rfl) rfl (.slice (some ⟨_, 0, none⟩) 0 0) [] (F.take m) _ _ _ (okOf r g (.slice (some ⟨b', 0, none⟩) n c')) (by rfl) (by rfl) ?hfr ?ho ?hc ?hb ?hz ?hl ?_ _; (case hfr => intro k hk; (try simp at hk); exact okOf_fresh HRA.out.lt HRA.out.gl HRA.out.ltV k (by omega)); (case ho => repeat (first | ((with_reducible refine lit_none _ _ _ _ ?_ ?_ ?_); (focus (simp; done)); (focus (simp; done)); (focus exact okOf_fresh HRA.out.lt HRA.out.gl HRA.out.ltV _ (Nat.le_refl _))) | with_reducible apply Kd.R_drew | with_reducible apply Kd.R_alloc)); (case hc => refine Kd.C_below HT1.out ?_; (repeat (first | with_reducible assumption | with_reducible exact Below.refl _ _ | with_reducible apply below_alloc | with_reducible apply below_drew))); (case hb => (repeat (first | with_reducible assumption | with_reducible exact Below.refl _ _ | with_reducible apply below_alloc | with_reducible apply below_drew))); (case hz => simp <;> omega); (case hl => simp <;> omega); intro v1 w2 hR hBl hg hat; simp only [List.nil_append] at hR; have k2 := pw_cell_below hBl k0; clear hg hat))
              | ((refine app_step (w0 := w) w.heap.size (by rfl) (.tmp 32) (.tmp 39) (by rfl) rfl v1 (F.take m) (F.drop (m + 1)) _ _ _ (okOf r g (.slice (some ⟨b', 0, none⟩) n c')) (by rfl) (by rfl) ?hfr ?ho ?hc ?hb ?hz ?hl ?_ _; (case hfr => intro k hk; have := hBl.size; (try simp at hk); exact okOf_fresh HRA.out.lt HRA.out.gl HRA.out.ltV k (by omega)); (case ho => repeat (first | with_reducible assumption | with_reducible apply Kd.R_drew | with_reducible apply Kd.R_alloc)); (case hc => refine Kd.C_below HT2.out ?_; (repeat (first | with_reducible assumption | with_reducible exact Below.refl _ _ | with_reducible apply below_alloc | with_reducible apply below_drew))); (case hb => (repeat (first | with_reducible assumption | with_reducible exact Below.refl _ _ | with_reducible apply below_alloc | with_reducible apply below_drew))); (case hz => have := hBl.size; simp <;> omega); (case hl => simp only [List.length_take]; omega); intro v3 w3 hR3 hB3 hg3 hat3; have k3 := pw_cell_below hB3 k0; have f3 : w3.frozen? ⟨r, 0, none⟩ = false := blk_frozen ((hB3.block r HRA.out.lt).trans HRA.out.blk) 0; obtain ⟨A3, c3, e3⟩ := Kd.R_slice hR3; subst e3; obtain ⟨n3, hn3⟩ : ∃ n, n = (F.take m ++ F.drop (m + 1)).length := ⟨_, rfl⟩; rw [← hn3] at hR3 ⊢; clear hn3; have HP := Aside0.mk (HRA.out.putF (grown_of_below hB3 _) (Kd.R_lower hR3 HBB.out) (fun k hk => .inr ((Kd.R_bound hR3).1 k hk).2.1)); have HQ := Aside0.mk hB3; clear hR3 hB3 hg3 hat3 k2)))
            all_goals
              go_wp2
              go_meet
              case rel => exact ⟨rfl, ⟨⟨_, by first | exact HP.out.2.2.1 | exact HP.out.2.2.1.drew⟩⟩, ⟨by first | exact below_set (lower HQ.out HBB.out) HRA.out.br (by have := HBB.out; have := HQ.out.size; omega) 0 _ | exact below_drew (below_set (lower HQ.out HBB.out) HRA.out.br (by have := HBB.out; have := HQ.out.size; omega) 0 _)⟩, ⟨by exact HP.out.2.2.2⟩⟩
        ·
            have q2 : ¬ ((c : Int) = (m : Int) + 1) := by omega
            have HT2 : Aside0 (Kd.C (Kd.int .i64) w (some ⟨b, m + 1, none⟩) (n - (m + 1)) (F.drop (m + 1))) := ⟨by
              have := Kd.C_drop HC1.out (m := m + 1) (c := c) (by have := HIM.out; have := HL.out; omega) (by have := HN.out; have := HL.out; omega)
              rw [if_neg hcm, List.length_drop, ← HN.out] at this
              have hsz : (Kd.int .i64).sz = 1 := rfl
              simpa [Go.Proofs.YtlohaefhigbdjaaW.PrintWords.add_plain, hsz] using this⟩
            have hwr : IntKind.i64.wrap ((m : Int) + 1) = (m : Int) + 1 := IntWalk.i64_in _ (by omega)
            have q11 : (0 : Int) ≤ (m : Int) + 1 := by omega
            have q12 : ((m : Int) + 1).toNat = m + 1 := by omega
            have hal := pw_cell_below (below_alloc (Below.refl _ w) (.cells #[] 3)) k0
            go_region_law (first
              | ((refine app_step (w0 := w) w.heap.size (by rfl) (.tmp 25) (.tmp 31) (by rfl) rfl (.slice (some ⟨_, 0, none⟩) 0 0) [] (F.take m) _ _ _ (okOf r g (.slice (some ⟨b', 0, none⟩) n c')) (by rfl) (by rfl) ?hfr ?ho ?hc ?hb ?hz ?hl ?_ _; (case hfr => intro k hk; (try simp at hk); exact okOf_fresh HRA.out.lt HRA.out.gl HRA.out.ltV k (by omega)); (case ho => repeat (first | ((with_reducible refine lit_none _ _ _ _ ?_ ?_ ?_); (focus (simp; done)); (focus (simp; done)); (focus exact okOf_fresh HRA.out.lt HRA.out.gl HRA.out.ltV _ (Nat.le_refl _))) | with_reducible apply Kd.R_drew | with_reducible apply Kd.R_alloc)); (case hc => refine Kd.C_below HT1.out ?_; (repeat (first | with_reducible assumption | with_reducible exact Below.refl _ _ | with_reducible apply below_alloc | with_reducible apply below_drew))); (case hb => (repeat (first | with_reducible assumption | with_reducible exact Below.refl _ _ | with_reducible apply below_alloc | with_reducible apply below_drew))); (case hz => simp <;> omega); (case hl => simp <;> omega); intro v1 w2 hR hBl hg hat; simp only [List.nil_append] at hR; have k2 := pw_cell_below hBl k0; clear hg hat))
              | ((refine app_step (w0 := w) w.heap.size (by rfl) (.tmp 32) (.tmp 39) (by rfl) rfl v1 (F.take m) (F.drop (m + 1)) _ _ _ (okOf r g (.slice (some ⟨b', 0, none⟩) n c')) (by rfl) (by rfl) ?hfr ?ho ?hc ?hb ?hz ?hl ?_ _; (case hfr => intro k hk; have := hBl.size; (try simp at hk); exact okOf_fresh HRA.out.lt HRA.out.gl HRA.out.ltV k (by omega)); (case ho => repeat (first | with_reducible assumption | with_reducible apply Kd.R_drew | with_reducible apply Kd.R_alloc)); (case hc => refine Kd.C_below HT2.out ?_; (repeat (first | with_reducible assumption | with_reducible exact Below.refl _ _ | with_reducible apply below_alloc | with_reducible apply below_drew))); (case hb => (repeat (first | with_reducible assumption | with_reducible exact Below.refl _ _ | with_reducible apply below_alloc | with_reducible apply below_drew))); (case hz => have := hBl.size; simp <;> omega); (case hl => simp only [List.length_take]; omega); intro v3 w3 hR3 hB3 hg3 hat3; have k3 := pw_cell_below hB3 k0; have f3 : w3.frozen? ⟨r, 0, none⟩ = false := blk_frozen ((hB3.block r HRA.out.lt).trans HRA.out.blk) 0; obtain ⟨A3, c3, e3⟩ := Kd.R_slice hR3; subst e3; obtain ⟨n3, hn3⟩ : ∃ n, n = (F.take m ++ F.drop (m + 1)).length := ⟨_, rfl⟩; rw [← hn3] at hR3 ⊢; clear hn3; have HP := Aside0.mk (HRA.out.putF (grown_of_below hB3 _) (Kd.R_lower hR3 HBB.out) (fun k hk => .inr ((Kd.R_bound hR3).1 k hk).2.1)); have HQ := Aside0.mk hB3; clear hR3 hB3 hg3 hat3 k2)))
            all_goals
              go_wp2
              go_meet
              case rel => exact ⟨rfl, ⟨⟨_, by first | exact HP.out.2.2.1 | exact HP.out.2.2.1.drew⟩⟩, ⟨by first | exact below_set (lower HQ.out HBB.out) HRA.out.br (by have := HBB.out; have := HQ.out.size; omega) 0 _ | exact below_drew (below_set (lower HQ.out HBB.out) HRA.out.br (by have := HBB.out; have := HQ.out.size; omega) 0 _)⟩, ⟨by exact HP.out.2.2.2⟩⟩
      case rest =>
        obtain ⟨rfl, HX, HBq, HGq⟩ := hcut
        obtain ⟨vq, hrq⟩ := HX.out
        have HRQ := Aside0.mk hrq
        have kq := hrq.cell1
        have HC3 := Aside0.mk (Kd.R_reads' hrq.v).2.2
        have HBq2 := Aside0.mk HBq.out.size
        have HBB2 : Aside0 (B ≤ wc.heap.size) := ⟨by have := HBB.out; have := HBq.out.size; omega⟩
        have HBq3 : Aside0 (w.heap.size ≤ wc.heap.size) := ⟨HBq.out.size⟩
        clear hrq HX k0 k1 hc HC1 HC2
        have q3 : (m : Int) + 1 ≤ (n : Int) := by omega
        have q4 : (n : Int) ≤ (c' : Int) := by omega
        have q7 : (m : Int) ≤ (c' : Int) := by omega
        have HT1 : Aside0 (Kd.C (Kd.int .i64) wc (some ⟨b', 0, none⟩) m (L.take m)) := ⟨by have := Kd.C_take HC3.out (m := m) (by have := HIM.out; have := HL.out; omega); rwa [List.length_take, Nat.min_eq_left (by have := HIM.out; have := HL.out; omega)] at this⟩
        go_wp2_with fail
        by_cases hcm : c' = m + 1
        ·
            have HT2 : Aside0 (Kd.C (Kd.int .i64) wc (some ⟨b', 0, none⟩) 0 (L.drop (m + 1))) := ⟨by
              have := Kd.C_drop HC3.out (m := m + 1) (c := c') (by have := HIM.out; have := HL.out; omega) (by have := HN.out; have := HL.out; omega)
              rw [if_pos hcm, List.length_drop, ← HL.out, ← HN.out] at this
              have e0 : n - (m + 1) = 0 := by omega
              rwa [e0] at this⟩
            subst hcm
            have q13 : (m : Int) ≤ (m : Int) + 1 := by omega
            have q14 : (n : Int) ≤ (m : Int) + 1 := by omega
            have hwr : IntKind.i64.wrap ((m : Int) + 1) = (m : Int) + 1 := IntWalk.i64_in _ (by omega)
            have q11 : (0 : Int) ≤ (m : Int) + 1 := by omega
            have q12 : ((m : Int) + 1).toNat = m + 1 := by omega
            have hal := pw_cell_below (below_alloc (Below.refl _ wc) (.cells #[] 3)) kq
            go_region_law (first
              | ((refine app_step (w0 := wc) wc.heap.size (by rfl) (.tmp 44) (.tmp 50) (by rfl) rfl (.slice (some ⟨_, 0, none⟩) 0 0) [] (L.take m) _ _ _ (okOf r g vq) (by rfl) (by rfl) ?hfr ?ho ?hc ?hb ?hz ?hl ?_ _; (case hfr => intro k hk; (try simp at hk); exact okOf_fresh HRQ.out.lt HRQ.out.gl HRQ.out.ltF k (by omega)); (case ho => repeat (first | ((with_reducible refine lit_none _ _ _ _ ?_ ?_ ?_); (focus (simp; done)); (focus (simp; done)); (focus exact okOf_fresh HRQ.out.lt HRQ.out.gl HRQ.out.ltF _ (Nat.le_refl _))) | with_reducible apply Kd.R_drew | with_reducible apply Kd.R_alloc)); (case hc => refine Kd.C_below HT1.out ?_; (repeat (first | with_reducible assumption | with_reducible exact Below.refl _ _ | with_reducible apply below_alloc | with_reducible apply below_drew))); (case hb => (repeat (first | with_reducible assumption | with_reducible exact Below.refl _ _ | with_reducible apply below_alloc | with_reducible apply below_drew))); (case hz => simp <;> omega); (case hl => simp <;> omega); intro v1 w2 hR hBl hg hat; simp only [List.nil_append] at hR; have k2 := pw_cell_below hBl kq; clear hg hat))
              | ((refine app_step (w0 := wc) wc.heap.size (by rfl) (.tmp 51) (.tmp 58) (by rfl) rfl v1 (L.take m) (L.drop (m + 1)) _ _ _ (okOf r g vq) (by rfl) (by rfl) ?hfr ?ho ?hc ?hb ?hz ?hl ?_ _; (case hfr => intro k hk; have := hBl.size; (try simp at hk); exact okOf_fresh HRQ.out.lt HRQ.out.gl HRQ.out.ltF k (by omega)); (case ho => repeat (first | with_reducible assumption | with_reducible apply Kd.R_drew | with_reducible apply Kd.R_alloc)); (case hc => refine Kd.C_below HT2.out ?_; (repeat (first | with_reducible assumption | with_reducible exact Below.refl _ _ | with_reducible apply below_alloc | with_reducible apply below_drew))); (case hb => (repeat (first | with_reducible assumption | with_reducible exact Below.refl _ _ | with_reducible apply below_alloc | with_reducible apply below_drew))); (case hz => have := hBl.size; simp <;> omega); (case hl => simp only [List.length_take]; omega); intro v3 w3 hR3 hB3 hg3 hat3; have k3 := pw_cell_below hB3 kq; have f3 : w3.frozen? ⟨r, 1, none⟩ = false := blk_frozen ((hB3.block r HRQ.out.lt).trans HRQ.out.blk) 1; obtain ⟨A3, c3, e3⟩ := Kd.R_slice hR3; subst e3; obtain ⟨n3, hn3⟩ : ∃ n, n = (L.take m ++ L.drop (m + 1)).length := ⟨_, rfl⟩; rw [← hn3] at hR3 ⊢; clear hn3; have HP := Aside0.mk (HRQ.out.putV (grown_of_below hB3 _) (Kd.R_lower hR3 HBB2.out) (fun k hk => .inr ((Kd.R_bound hR3).1 k hk).2.1)); have HQ := Aside0.mk hB3; clear hR3 hB3 hg3 hat3 k2)))
            all_goals
              go_wp2
              go_ret
              exact ⟨rfl, ⟨_, _, by first | exact HP.out.2.2.1 | exact HP.out.2.2.1.drew, by have := HL.out; simp; omega, by have := HSM.out; simp; omega⟩, by first | exact below_set (below_then HBq.out HBB2.out (lower HQ.out (Nat.le_refl _))) HRA.out.br (by have := HBB2.out; have := HQ.out.size; omega) 1 _ | exact below_drew (below_set (below_then HBq.out HBB2.out (lower HQ.out (Nat.le_refl _))) HRA.out.br (by have := HBB2.out; have := HQ.out.size; omega) 1 _), by exact fun k hk => (HP.out.2.2.2 k hk).trans (HGq.out k hk)⟩
        ·
            have q2 : ¬ ((c' : Int) = (m : Int) + 1) := by omega
            have HT2 : Aside0 (Kd.C (Kd.int .i64) wc (some ⟨b', m + 1, none⟩) (n - (m + 1)) (L.drop (m + 1))) := ⟨by
              have := Kd.C_drop HC3.out (m := m + 1) (c := c') (by have := HIM.out; have := HL.out; omega) (by have := HN.out; have := HL.out; omega)
              rw [if_neg hcm, List.length_drop, ← HL.out, ← HN.out] at this
              have hsz : (Kd.int .i64).sz = 1 := rfl
              simpa [Go.Proofs.YtlohaefhigbdjaaW.PrintWords.add_plain, hsz] using this⟩
            have hwr : IntKind.i64.wrap ((m : Int) + 1) = (m : Int) + 1 := IntWalk.i64_in _ (by omega)
            have q11 : (0 : Int) ≤ (m : Int) + 1 := by omega
            have q12 : ((m : Int) + 1).toNat = m + 1 := by omega
            have hal := pw_cell_below (below_alloc (Below.refl _ wc) (.cells #[] 3)) kq
            go_region_law (first
              | ((refine app_step (w0 := wc) wc.heap.size (by rfl) (.tmp 44) (.tmp 50) (by rfl) rfl (.slice (some ⟨_, 0, none⟩) 0 0) [] (L.take m) _ _ _ (okOf r g vq) (by rfl) (by rfl) ?hfr ?ho ?hc ?hb ?hz ?hl ?_ _; (case hfr => intro k hk; (try simp at hk); exact okOf_fresh HRQ.out.lt HRQ.out.gl HRQ.out.ltF k (by omega)); (case ho => repeat (first | ((with_reducible refine lit_none _ _ _ _ ?_ ?_ ?_); (focus (simp; done)); (focus (simp; done)); (focus exact okOf_fresh HRQ.out.lt HRQ.out.gl HRQ.out.ltF _ (Nat.le_refl _))) | with_reducible apply Kd.R_drew | with_reducible apply Kd.R_alloc)); (case hc => refine Kd.C_below HT1.out ?_; (repeat (first | with_reducible assumption | with_reducible exact Below.refl _ _ | with_reducible apply below_alloc | with_reducible apply below_drew))); (case hb => (repeat (first | with_reducible assumption | with_reducible exact Below.refl _ _ | with_reducible apply below_alloc | with_reducible apply below_drew))); (case hz => simp <;> omega); (case hl => simp <;> omega); intro v1 w2 hR hBl hg hat; simp only [List.nil_append] at hR; have k2 := pw_cell_below hBl kq; clear hg hat))
              | ((refine app_step (w0 := wc) wc.heap.size (by rfl) (.tmp 51) (.tmp 58) (by rfl) rfl v1 (L.take m) (L.drop (m + 1)) _ _ _ (okOf r g vq) (by rfl) (by rfl) ?hfr ?ho ?hc ?hb ?hz ?hl ?_ _; (case hfr => intro k hk; have := hBl.size; (try simp at hk); exact okOf_fresh HRQ.out.lt HRQ.out.gl HRQ.out.ltF k (by omega)); (case ho => repeat (first | with_reducible assumption | with_reducible apply Kd.R_drew | with_reducible apply Kd.R_alloc)); (case hc => refine Kd.C_below HT2.out ?_; (repeat (first | with_reducible assumption | with_reducible exact Below.refl _ _ | with_reducible apply below_alloc | with_reducible apply below_drew))); (case hb => (repeat (first | with_reducible assumption | with_reducible exact Below.refl _ _ | with_reducible apply below_alloc | with_reducible apply below_drew))); (case hz => have := hBl.size; simp <;> omega); (case hl => simp only [List.length_take]; omega); intro v3 w3 hR3 hB3 hg3 hat3; have k3 := pw_cell_below hB3 kq; have f3 : w3.frozen? ⟨r, 1, none⟩ = false := blk_frozen ((hB3.block r HRQ.out.lt).trans HRQ.out.blk) 1; obtain ⟨A3, c3, e3⟩ := Kd.R_slice hR3; subst e3; obtain ⟨n3, hn3⟩ : ∃ n, n = (L.take m ++ L.drop (m + 1)).length := ⟨_, rfl⟩; rw [← hn3] at hR3 ⊢; clear hn3; have HP := Aside0.mk (HRQ.out.putV (grown_of_below hB3 _) (Kd.R_lower hR3 HBB2.out) (fun k hk => .inr ((Kd.R_bound hR3).1 k hk).2.1)); have HQ := Aside0.mk hB3; clear hR3 hB3 hg3 hat3 k2)))
            all_goals
              go_wp2
              go_ret
              exact ⟨rfl, ⟨_, _, by first | exact HP.out.2.2.1 | exact HP.out.2.2.1.drew, by have := HL.out; simp; omega, by have := HSM.out; simp; omega⟩, by first | exact below_set (below_then HBq.out HBB2.out (lower HQ.out (Nat.le_refl _))) HRA.out.br (by have := HBB2.out; have := HQ.out.size; omega) 1 _ | exact below_drew (below_set (below_then HBq.out HBB2.out (lower HQ.out (Nat.le_refl _))) HRA.out.br (by have := HBB2.out; have := HQ.out.size; omega) 1 _), by exact fun k hk => (HP.out.2.2.2 k hk).trans (HGq.out k hk)⟩
end Go.Proofs.Ytlohaefhigbdjaa.Fds
