/- Part of the proof of TopVerdictSaid. -/
import Derived.Test.YtidnojkijfinaaaQTpAwake
namespace Go.Proofs.Ytidnojkijfinaaa.Fns
open Go.RowKit Go.Maps Go.Proofs.YtidnojkijfinaaaW.PrintWords Go.Proofs.YtidnojkijfinaaaW.PrintLast Go.Proofs.YtidnojkijfinaaaW.PrintMore
attribute [local go_sem] max2_int min2_int max_two min_two max_three min_three max_four min_four
set_option linter.unusedVariables false
set_option linter.unusedSimpArgs false
structure TI (w : World) (d : DT) (g : Nat) (ps : List (List S84)) (ans : List Int) (cost : Int) (A : Option Addr) (W : World) : Prop where
  stk : Stk W g ps cost
  an : Answers d ps ans
  row : Kd.F (Kd.int .u32) W (fun k => k ≠ g) A ans.length ans.reverse
  box : W.heap[w.heap.size]? = some (.cells d.cells 27 (0, 0))
  bl : Below w.heap.size w W
  lo : w.heap.size < g
  c0 : 0 ≤ cost
  cm : cost ≤ 32768
theorem TI.below {w W W1 : World} {d : DT} {g : Nat} {ps : List (List S84)} {ans : List Int} {cost : Int} {A : Option Addr} (h : TI w d g ps ans cost A W) (hb : Below W.heap.size W W1) : TI w d g ps ans cost A W1 :=
  ⟨h.stk.below hb, h.an, Kd.F_below h.row hb, blk_below h.box hb, below_then h.bl h.bl.size hb, h.lo, h.c0, h.cm⟩
theorem TI.grown {w W W1 : World} {d : DT} {g : Nat} {ps : List (List S84)} {ans : List Int} {cost : Int} {A : Option Addr} {p : List S84} {v : Int} (h : TI w d g ps ans cost A W) (hs : Stk W1 g (ps ++ [p]) (cost + p.length + 4)) (hg : W.grownBy W1 (some g)) (hp : ProgOk p) (hv : ∃ K, vmRun d p K 0 0 = some v) (hc : cost + p.length + 4 ≤ 32768) :
    Stk W1 g (ps ++ [p]) (cost + p.length + 4) ∧ Answers d (ps ++ [p]) (ans ++ [v]) ∧ Kd.F (Kd.int .u32) W1 (fun k => k ≠ g) A ans.length ans.reverse ∧ W1.heap[w.heap.size]? = some (.cells d.cells 27 (0, 0)) ∧ Below w.heap.size w W1 := by
  refine ⟨hs, ⟨by simp [h.an.1], fun j h1 h2 => ?_⟩, Kd.F_grown h.row hg (fun k hk e => hk (by injection e)), gr_blk hg h.box (fun e => by have := h.lo; injection e; omega), h.bl.grown hg h.bl.size (fun j hj => by have := h.lo; injection hj; omega)⟩
  by_cases hj : j < ps.length
  · have h3 := h.an.2 j hj (by rw [h.an.1]; exact hj)
    rw [List.getElem_append_left hj, List.getElem_append_left (by rw [h.an.1]; exact hj)]
    exact h3
  · have e : j = ps.length := by simp at h1; omega
    subst e
    have e2 : (ans ++ [v])[ps.length] = v := by simp [← h.an.1]
    rw [e2]
    simp
    exact ⟨hp, hv⟩
theorem TI.next {w W1 W2 : World} {d : DT} {g base n c8 : Nat} {ps : List (List S84)} {ans : List Int} {cost : Int} {A8 : Option Addr}
    (h1 : Stk W1 g ps cost) (h2 : Answers d ps ans) (h4 : W1.heap[w.heap.size]? = some (.cells d.cells 27 (0, 0))) (h5 : Below w.heap.size w W1) (hb : Below W1.heap.size W1 W2)
    (hlo : w.heap.size < g) (hg : g < base) (hr : Kd.R (Kd.int .u32) 23 W2 base (fun _ => True) (.slice A8 n c8) ans.reverse) (hc : 0 ≤ cost ∧ cost ≤ 32768) : TI w d g ps ans cost A8 W2 ∧ n = ans.length ∧ n ≤ c8 := by
  have hq := Kd.R_reads' hr
  have hn : n = ans.length := by rw [hq.1, List.length_reverse]
  subst hn
  refine ⟨⟨h1.below hb, h2, Kd.F_mono (Kd.R_F (Kd.R_bound hr)) (fun k hk => by have h3 := hk.2.2.1; omega), blk_below h4 hb, below_then h5 h5.size hb, hlo, hc.1, hc.2⟩, rfl, hq.2.1⟩
theorem lit1_R (W : World) (x : Int) : Kd.R (Kd.int .u32) 23 (W.alloc (.cells #[.int .u32 x] 23 (0, 0))) W.heap.size (fun _ => True) (.slice (some ⟨W.heap.size, 0, none⟩) 1 1) [x] := by
  refine ⟨fun _ _ => trivial, [.int .u32 x], ?_, (Reps.none _ _).snoc (show Kd.M (Kd.int .u32) _ _ _ x [.int .u32 x] from rfl) rfl⟩
  exact World.ownsRow_lit (base := W.heap.size) (e := 23) (size := 1) W #[.int .u32 x] 1 (Nat.le_refl _) (by decide) rfl
theorem box_cells {W : World} {d : DT} {g : Nat} (h : W.heap[g]? = some (.cells d.cells 27 (0, 0))) : W.cell? ⟨g, 0, none⟩ = some (.int .u32 d.nr) ∧ W.cell? ⟨g, 1, none⟩ = some (.int .u32 d.arch) ∧ W.cell? ⟨g, 2, none⟩ = some (.int .u64 d.ip) ∧ W.cell? ⟨g, 3, none⟩ = some (.int .u64 d.a0) ∧ W.cell? ⟨g, 4, none⟩ = some (.int .u64 d.a1) ∧ W.cell? ⟨g, 5, none⟩ = some (.int .u64 d.a2) ∧ W.cell? ⟨g, 6, none⟩ = some (.int .u64 d.a3) ∧ W.cell? ⟨g, 7, none⟩ = some (.int .u64 d.a4) ∧ W.cell? ⟨g, 8, none⟩ = some (.int .u64 d.a5) :=
  ⟨(blk_cell h 0).trans rfl, (blk_cell h 1).trans rfl, (blk_cell h 2).trans rfl, (blk_cell h 3).trans rfl, (blk_cell h 4).trans rfl, (blk_cell h 5).trans rfl, (blk_cell h 6).trans rfl, (blk_cell h 7).trans rfl, (blk_cell h 8).trans rfl⟩
theorem most_calls (A : Option Addr) (c : Nat) (ans : List Int) (m : Int) (w : World) (hr : Kd.C (Kd.int .u32) w A ans.length ans.reverse) (h : act_Most.f 2000 ans.reverse = some m) :
    Calls Try.prog 12 #[.slice A ans.length c] w fun e w' => e = .returned (.int .u32 m) ∧ Below w.heap.size w w' := by
  have k := act_Most.calls 2000 A c ans.reverse m w (by rw [List.length_reverse]; exact hr) h
  rw [List.length_reverse] at k
  exact k
set_option maxHeartbeats 16000000 in
set_option maxRecDepth 100000 in
theorem top_calls (w : World) (A : Option Addr) (c : Nat) (l : List ByteArray) (d : DT) (hd : d.Ok) (hr : Kd.C Kd.string w A l.length l) (hc : l.length ≤ c) :
    Calls Try.prog 3 #[.slice A l.length c, .agg d.cells] w fun e w' => e = .returned (.bool true) ∧ Below w.heap.size w w' := by
  have HD := Aside0.mk hd
  have HR := Aside0.mk hr
  have HC := Aside0.mk hc
  have HM := Aside0.mk (Kd.C_max hr)
  clear hd hr hc
  have HDE : d.cells = #[.int .u32 d.nr, .int .u32 d.arch, .int .u64 d.ip, .int .u64 d.a0, .int .u64 d.a1, .int .u64 d.a2, .int .u64 d.a3, .int .u64 d.a4, .int .u64 d.a5] := rfl
  have HDA := Aside0.mk HDE
  rw [HDE]
  clear HDE
  go_enter Try.func3, Try.ntmps3
  go_wp2_with fail
  rw [← HDA.out]
  have K0 := Aside0.mk (blk_new w (.cells d.cells 27 (0, 0)))
  have HB0 := Aside0.mk (below_alloc (Below.refl w.heap.size w) (.cells d.cells 27 (0, 0)))
  refine (awake_calls _).mono ?_
  rintro e w1 ⟨rfl, hb⟩
  have HB1 := Aside0.mk (below_then HB0.out HB0.out.size hb)
  have K1 := Aside0.mk (blk_below K0.out hb)
  clear hb HB0 K0
  by_cases h8 : 8 < l.length
  · have e1 : decide ((8 : Int) < (l.length : Int)) = true := decide_eq_true (by omega)
    have e2 : decide (8 < l.length) = true := decide_eq_true h8
    clear h8
    go_wp2_with fail
    go_ret
    exact ⟨rfl, HB1.out⟩
  · have e1 : decide ((8 : Int) < (l.length : Int)) = false := decide_eq_false (by omega)
    have e2 : decide (8 < l.length) = false := decide_eq_false h8
    have H8 := Aside0.mk (show l.length ≤ 8 by omega)
    clear h8
    go_wp2_with fail
    have HT1 : Aside0 (TI w d w1.heap.size [] [] 0 none (w1.alloc (.cells #[.slice none 0 0, .int .i64 0] 32 (0, 0)))) := ⟨⟨stk_new (blk_new w1 _), ⟨rfl, fun j h => by simp at h⟩, fun W' _ => ⟨rfl, Nat.zero_le _, fun h0 => absurd h0 (by decide)⟩, blk_alloc K1.out _, below_alloc HB1.out _, blk_lt K1.out, by decide, by decide⟩⟩
    go_loopw [8, 7] (fun v8 v7 wr => ∃ (i : Nat) (ps : List (List S84)) (ans : List Int) (cost : Int) (A7 : Option Addr) (c7 : Nat), v8 = .int .i64 (i : Int) ∧ v7 = .slice A7 ans.length c7 ∧ i ≤ l.length ∧ ps.length ≤ i ∧ ans.length ≤ c7 ∧ Aside0 (TI w d w1.heap.size ps ans cost A7 wr)) (fun v8 _ _ => l.length - (intOf v8).toNat)
    case atStart => exact ⟨0, [], [], 0, none, 0, rfl, rfl, by omega, Nat.le_refl _, Nat.le_refl _, HT1⟩
    case round =>
      clear HT1 HB1 K1
      obtain ⟨i, ps, ans, cost, A7, c7, rfl, rfl, hi, hps, hc7, HT⟩ := hrel
      have HC7 := Aside0.mk hc7
      have HPS := Aside0.mk hps
      by_cases hlt : i < l.length
      · have d1 : decide ((i : Int) < (l.length : Int)) = true := decide_eq_true (by omega)
        have d2 : decide (i < l.length) = true := decide_eq_true hlt
        have q1 : (0 ≤ (i : Int)) = True := eq_true (by omega)
        have q2 : ((i : Int) < (l.length : Int)) = True := eq_true (by omega)
        have q3 : (i < l.length) = True := eq_true hlt
        have HL := Aside0.mk hlt
        have HKW := Aside0.mk (show wrap64 ((i : Int) + 1) = ((i + 1 : Nat) : Int) by have := H8.out; rw [IntWalk.wrap64_in _ (by omega)]; rfl)
        obtain ⟨ad, ea, hx⟩ := Kd.at_string (Kd.C_below HR.out HT.out.bl) (i : Int) (by omega) (by omega)
        cases ea
        rw [Int.toNat_natCast] at hx
        obtain ⟨s, hs⟩ : ∃ s, rdOf ByteArray.empty l (i : Int) = s := ⟨_, rfl⟩
        rw [hs] at hx
        clear hs hlt hi hps hc7
        go_wp2_with fail
        obtain ⟨r, hp1, hp2, hp3⟩ := parse_any s
        refine (hp1 _).mono ?_
        rintro e w2 ⟨hb, ha⟩
        have HT2 := Aside0.mk (HT.out.below hb)
        have HG1 := Aside0.mk (show w1.heap.size < wr.heap.size by obtain ⟨_, _, h, _⟩ := HT.out.stk; exact blk_lt h)
        have HG2 := Aside0.mk (show w1.heap.size < w2.heap.size by obtain ⟨_, _, h, _⟩ := HT2.out.stk; exact blk_lt h)
        clear hb hx HT hp1
        cases r with
        | error er =>
          obtain ⟨er, at_⟩ := er
          obtain rfl := ha
          have HE := hp3 er at_ rfl
          have he : (er != 0) = true := by simpa using HE
          clear hp2 hp3 HE
          unfold z38
          go_wp2_with fail
          rw [HKW.out]
          refine ⟨⟨i + 1, ps, ans, cost, A7, c7, rfl, rfl, by have := HL.out; omega, by have := HPS.out; omega, HC7.out, ⟨HT2.out.below (below_alloc (Below.refl _ _) _)⟩⟩, ?_⟩
          have := HL.out
          simp only [intOf]
          omega
        | ok r =>
          obtain ⟨⟨dk, da⟩, rs⟩ := r
          obtain ⟨v, rfl, hr⟩ := ha
          have RI := Aside0.mk (hp2 ⟨dk, da⟩ rs rfl)
          clear hp2 hp3
          obtain ⟨ce, cat, hck, hco⟩ := check_total dk da rs RI.out
          obtain ⟨A3, c3, rfl⟩ := Kd.R_slice hr
          have HC3 := Aside0.mk (Kd.R_reads' hr).2.1
          have HR3 := Aside0.mk (Kd.R_reads' hr).2.2
          have CK := Aside0.mk hck
          have CO_ := Aside0.mk hco
          have HF3 : Aside0 (Kd.F k72 w2 (fun k => k ≠ w1.heap.size) A3 rs.length rs) := ⟨Kd.F_mono (Kd.R_F (Kd.R_bound hr)) (fun k hk => by have h3 := hk.2.2.1; have := HG1.out; omega)⟩
          clear hr hck hco
          have HB3 := Aside0.mk (below_alloc (Below.refl w2.heap.size w2) (.cells #[.int .i64 dk, .int .i64 da, .slice A3 rs.length c3] 38 (0, 0)))
          have K3 := Aside0.mk (blk_new w2 (.cells #[.int .i64 dk, .int .i64 da, .slice A3 rs.length c3] 38 (0, 0)))
          go_wp2_with fail
          refine (compile_calls dk da A3 c3 rs _ ce cat (Kd.C_below HR3.out HB3.out) HC3.out RI.out CK.out (fun h => (CO_.out h).2)).mono ?_
          rintro e w4 ⟨hb, ha1, ha2⟩
          have HT4 := Aside0.mk (HT2.out.below (below_then HB3.out HB3.out.size hb))
          have HF4 := Aside0.mk (Kd.F_below (Kd.F_below HF3.out HB3.out) hb)
          have K4 := Aside0.mk (blk_below K3.out hb)
          clear hb HT2 HR3 K3 HB3
          by_cases hce : ce = 0
          rotate_left
          · obtain rfl := ha1 hce
            have he : (ce != 0) = true := by simpa using hce
            clear ha1 ha2 hce CK CO_
            go_wp2_with fail
            rw [HKW.out]
            refine ⟨⟨i + 1, ps, ans, cost, A7, c7, rfl, rfl, by have := HL.out; omega, by have := HPS.out; omega, HC7.out, HT4⟩, ?_⟩
            have := HL.out
            simp only [intOf]
            omega
          · subst hce
            obtain ⟨hat, RO⟩ := CO_.out rfl
            have RO := Aside0.mk RO
            have CK2 := Aside0.mk (show mean_Check.f 150 dk da rs = some (0, -1) by rw [← hat]; exact CK.out)
            rcases ha2 rfl with ⟨hlen, v4, rfl, hr4⟩ | ⟨hbad, rfl⟩
            rotate_left
            · clear ha1 ha2 hbad hat CK CO_
              go_wp2_with fail
              rw [HKW.out]
              refine ⟨⟨i + 1, ps, ans, cost, A7, c7, rfl, rfl, by have := HL.out; omega, by have := HPS.out; omega, HC7.out, HT4⟩, ?_⟩
              have := HL.out
              simp only [intOf]
              omega
            · obtain ⟨p, hp⟩ : ∃ p, progR dk da rs = p := ⟨_, rfl⟩
              have HPO := Aside0.mk (progR_ok RO.out hlen)
              have HPR := Aside0.mk (progR_runs RO.out HD.out)
              have AO := Aside0.mk (decide_ok RO.out d)
              obtain ⟨dec, hdec⟩ : ∃ x, decideB dk da rs d = x := ⟨_, rfl⟩
              have DEC := Aside0.mk hdec
              have PL := Aside0.mk hlen
              rw [hp] at hr4 HPO HPR PL
              rw [hdec] at AO HPR
              obtain ⟨A4, c4, rfl⟩ := Kd.R_slice hr4
              have HP4 := Aside0.mk (Kd.R_reads' hr4).2.2
              clear ha1 ha2 hat CK CO_ hr4 hp hlen hdec
              go_wp2_with fail
              by_cases hfit : cost + p.length + 4 ≤ 32768
              rotate_left
              · have hps := HPS.out
                have h8 := H8.out
                have hl8 := HL.out
                refine (attach_full A4 c4 p _ w1.heap.size ps cost HP4.out HPO.out HT4.out.stk (by omega) HT4.out.c0 HT4.out.cm (by omega)).mono ?_
                rintro e w5 ⟨rfl, hb⟩
                have HT5 := Aside0.mk (HT4.out.below hb)
                clear hb hps h8 hl8
                go_wp2_with fail
                refine (cost_calls _ w1.heap.size ps cost HT5.out.stk).mono ?_
                rintro e w6 ⟨rfl, rfl⟩
                have z1 : wrap64 (cost + (p.length : Int)) = cost + (p.length : Int) := IntWalk.wrap64_in _ (by have := HT5.out.c0; have := HT5.out.cm; have := PL.out; omega)
                have z2 : wrap64 (cost + (p.length : Int) + 4) = cost + (p.length : Int) + 4 := IntWalk.wrap64_in _ (by have := HT5.out.c0; have := HT5.out.cm; have := PL.out; omega)
                have z3 : decide ((32768 : Int) < cost + (p.length : Int) + 4) = true := decide_eq_true (by omega)
                clear hfit
                go_wp2_with fail
                go_ret
                exact ⟨rfl, HT5.out.bl⟩
              · have HFT := Aside0.mk hfit
                have hps := HPS.out
                have h8 := H8.out
                have hl8 := HL.out
                refine (attach_calls A4 c4 p _ w1.heap.size ps cost HP4.out HPO.out HT4.out.stk (by omega) HT4.out.c0 (by omega)).mono ?_
                rintro e w5 ⟨rfl, hs, hg⟩
                have HG5 := Aside0.mk (HT4.out.grown hs hg HPO.out HPR.out hfit)
                have K5 := Aside0.mk (gr_blk hg K4.out (fun e => by have := HG2.out; injection e; omega))
                have HR5 := Aside0.mk (Kd.F_now (Kd.F_grown HF4.out hg (fun k hk e => hk (by injection e))))
                have HW25 := Aside0.mk (show w2.heap.size < w5.heap.size from blk_lt K5.out)
                clear hs hg hps h8 hl8 hfit
                obtain ⟨b0, b1, b2, b3, b4, b5, b6, b7, b8⟩ := box_cells HG5.out.2.2.2.1
                have x0 : w5.cell? ⟨w2.heap.size, 0, none⟩ = some (.int .i64 dk) := (blk_cell K5.out 0).trans rfl
                have x1 : w5.cell? ⟨w2.heap.size, 1, none⟩ = some (.int .i64 da) := (blk_cell K5.out 1).trans rfl
                have x2 : w5.cell? ⟨w2.heap.size, 2, none⟩ = some (.slice A3 rs.length c3) := (blk_cell K5.out 2).trans rfl
                go_wp2_with fail
                rw [← HDA.out]
                refine (decide_calls 150 dk da A3 c3 rs d _ dec HR5.out HC3.out CK2.out (conds_ok RO.out) DEC.out).mono ?_
                rintro e w6 ⟨rfl, hb⟩
                have HB6 := Aside0.mk hb
                clear hb b0 b1 b2 b3 b4 b5 b6 b7 b8 x0 x1 x2
                obtain ⟨vv, hvv⟩ : ∃ x, actV dec = x := ⟨_, rfl⟩
                have VI := Aside0.mk (value_is AO.out)
                rw [hvv] at VI HG5
                obtain ⟨dec0, dec1⟩ := dec
                go_wp2_with fail
                refine (act_Value.calls dec0 dec1 vv 0 _ VI.out.1).mono ?_
                rintro e w7 ⟨rfl, hb⟩
                have HB7 := Aside0.mk (below_then (below_alloc HB6.out _) (by have := HB6.out.size; simp; omega) hb)
                have HL7 := Aside0.mk (lit1_R w7 vv)
                have HA7 := Aside0.mk (below_alloc (Below.refl w7.heap.size w7) (.cells #[.int .u32 vv] 23 (0, 0)))
                have HRW := Aside0.mk (Kd.F_now (Kd.F_below (Kd.F_below HG5.out.2.2.1 HB7.out) HA7.out))
                have HAL := Aside0.mk (show ans.length ≤ 8 by have := HT4.out.an.1; have := HPS.out; have := HL.out; have := H8.out; omega)
                clear hb HB6
                go_wp2_with (first
                  | ((with_reducible refine gate_dst (N := 85) rfl ?_); refine Kd.R_append_rows (Kd.int .u32) (w0 := w7) w7.heap.size rfl (.tmp 83) (.tmp 84) 33 23 (.int .u32 0) 4 rfl Try.underlying33 info23 rfl (by decide) (by decide) (.slice (some ⟨w7.heap.size, 0, none⟩) 1 1) [vv] ans.reverse A7 ans.length c7 (fun _ => True) (fun _ => False) rfl rfl HL7.out HRW.out (fun _ _ h => h) (fun _ h => h.elim) (fun _ _ => trivial) HA7.out HA7.out.size ?aL ?_; (case aL => have := HAL.out; simp only [List.length_cons, List.length_nil]; omega); intro v8 w8 ho8 hb8 hg8 hat8; have HO8 := Aside0.mk ho8; have HB8 := Aside0.mk hb8; clear ho8 hb8 hg8 hat8))
                have ho8 := HO8.out
                rw [show [vv] ++ ans.reverse = (ans ++ [vv]).reverse by simp] at ho8
                obtain ⟨A8, c8, rfl⟩ := Kd.R_slice ho8
                obtain ⟨t1, t2, t3⟩ := TI.next HG5.out.1 HG5.out.2.1 HG5.out.2.2.2.1 HG5.out.2.2.2.2 (below_then HB7.out HB7.out.size HB8.out) HT4.out.lo (by have := HB7.out.size; have := HG2.out; have := HW25.out; omega) ho8 ⟨by have := HT4.out.c0; omega, HFT.out⟩
                rw [HKW.out]
                refine ⟨⟨i + 1, _, _, _, A8, c8, rfl, by rw [t2], by have := HL.out; omega, by have := HPS.out; simp; omega, by omega, ⟨t1⟩⟩, ?_⟩
                have := HL.out
                simp only [intOf]
                omega
      · have d1 : decide ((i : Int) < (l.length : Int)) = false := decide_eq_false (by omega)
        have d2 : decide (i < l.length) = false := decide_eq_false hlt
        obtain rfl : i = l.length := by omega
        obtain ⟨b0, b1, b2, b3, b4, b5, b6, b7, b8⟩ := box_cells HT.out.box
        obtain ⟨m, hm⟩ := most_total ans.reverse (by have := HT.out.an.1; have := H8.out; simp; omega)
        have HMM := Aside0.mk hm
        clear hlt hi hps hc7 hm
        go_wp2_with fail
        rw [← HDA.out]
        refine (srun_calls wr w1.heap.size ps cost d ans 2000 m HT.out.stk HT.out.an (by have := HPS.out; have := H8.out; omega) HMM.out).mono ?_
        rintro e w3 ⟨⟨n, rfl, _⟩, hb⟩
        have HT3 := Aside0.mk (HT.out.below hb)
        clear hb HT b0 b1 b2 b3 b4 b5 b6 b7 b8
        go_wp2_with fail
        refine (most_calls A7 c7 ans m _ (Kd.F_now HT3.out.row) HMM.out).mono ?_
        rintro e w4 ⟨rfl, hb⟩
        have HT4 := Aside0.mk (HT3.out.below hb)
        have HAL := Aside0.mk HT3.out.an.1
        clear hb HT3
        go_wp2_with fail
        refine (len_calls _ w1.heap.size ps cost HT4.out.stk).mono ?_
        rintro e w5 ⟨rfl, rfl⟩
        rw [HAL.out]
        go_wp2_with fail
        go_ret
        exact ⟨rfl, HT4.out.bl⟩
end Go.Proofs.Ytidnojkijfinaaa.Fns
