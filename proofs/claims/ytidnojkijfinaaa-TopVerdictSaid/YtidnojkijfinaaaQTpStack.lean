/- Part of the proof of TopVerdictSaid. -/
import Derived.Test.YtidnojkijfinaaaQTpPlay
import Derived.Laws.CopyRow
import Derived.Laws.CopyOwn
import Derived.Deep.RegionLawGrows
namespace Go.Proofs.Ytidnojkijfinaaa.Fns
open Go.RowKit Go.Proofs.YtidnojkijfinaaaW.PrintWords Go.Proofs.YtidnojkijfinaaaW.PrintLast Go.Proofs.YtidnojkijfinaaaW.PrintMore
attribute [local go_sem] max2_int min2_int max_two min_two max_three min_three max_four min_four
set_option linter.unusedVariables false
set_option linter.unusedSimpArgs false
theorem rows_F {α : Type} {d : Kd α} {W : World} {ok : Nat → Prop} {g n : Nat} {xs : List α} (h : ReadsRow (fun x c => Kd.FK d W ok x c) d.sz W (some ⟨g, 0, none⟩) n xs) (hg : ok g) : Kd.F d W ok (some ⟨g, 0, none⟩) n xs := by
  intro W' hW
  refine ⟨h.1, h.2.1, fun hn => ?_⟩
  obtain ⟨ad, e, hc⟩ := h.2.2 hn
  cases e
  refine ⟨_, rfl, fun j p hj => ?_⟩
  obtain ⟨c, h1, h2, h3⟩ := hc j p hj
  refine ⟨c, h1, h2 W' hW, fun i u hu => ?_⟩
  have h4 := h3 i u hu
  have hlt := World.block_lt_of_cell? W _ h4
  rw [add_block] at hlt
  rw [← h4]
  exact World.cell?_of_block (by rw [add_block]; exact hW g hg hlt)
theorem run_copy_all {P : Program} (w : World) (dT sT ty elem : TypeId) (g n dCap : Nat) (a : Addr) (sCap k : Nat) (cur : Array Value) (t : TypeId) (cs : List Value)
    (hu : P.underlying dT = some (.slice elem)) (hs : (P.info? elem).map (·.size) = some k)
    (hg : w.heap[g]? = some (.cells cur t (0, 0))) (hn : cs.length = n * k)
    (hsrc : ∀ j v, cs[j]? = some v → w.cell? (a.add j) = some v) (hfit : cs.length ≤ cur.size) (h1 : ∀ v ∈ cs, v.oneCell' = true) :
    (Builtin.copy_ #[dT, sT] ty #[.slice (some ⟨g, 0, none⟩) n dCap, .slice (some a) n sCap]).run P w = .ok (goInt n) (w.setRow g (cs ++ cur.toList.drop cs.length).toArray) := by
  have hl := run_loadCells_list (P := P) w a cs hsrc
  have hst := run_storeCells_at P g 0 t cs 0 cur w hg (by omega) h1
  have e : (cur.toList.take (0 + 0) ++ cs ++ cur.toList.drop (0 + 0 + cs.length)).toArray = (cs ++ cur.toList.drop cs.length).toArray := by simp
  rw [e] at hst
  cases hq : P.info? elem with
  | none => simp [hq] at hs
  | some i =>
    have hi : i.size = k := by simpa [hq] using hs
    simp [Builtin.copy_, run_underlying hu, Builtin.lenOf, Builtin.firstCells, sizeOf, typeInfo, hq, hi, ← hn, hl, hst]
theorem wpList_copy_all {P : Program} {w : World} {ops : Array Oper} {rest : List Oper} {o : Oper} {a : Act} {Q : Exit → Act → World → Prop} (hgd : o.guard = none) (d s : Operand) (dT sT : TypeId)
    (ho : o.op = .call { callee := .builtin .copy, args := #[d, s], argTypes := #[dT, sT] }) (elem : TypeId) (k : Nat) (hu : P.underlying dT = some (.slice elem)) (hsz : (P.info? elem).map (·.size) = some k)
    (g n dCap : Nat) (ad : Addr) (sCap : Nat) (hd : a.eval d = .slice (some ⟨g, 0, none⟩) n dCap) (hs : a.eval s = .slice (some ad) n sCap)
    (t : TypeId) (base : Nat) (old : List Value) (hown : w.ownsRow base t k (.slice (some ⟨g, 0, none⟩) n dCap) n old) (cs : List Value) (hn : cs.length = n * k)
    (hsrc : ∀ j v, cs[j]? = some v → w.cell? (ad.add j) = some v) (h1 : ∀ v ∈ cs, v.oneCell' = true)
    (h : ∀ w1, w1.ownsRow base t k (.slice (some ⟨g, 0, none⟩) n dCap) n cs → w.grownBy w1 (some g) → wpList P ops Q rest (a.put o.dst (goInt n)) w1) : wpList P ops Q (o :: rest) a w := by
  refine wpList_plain hgd fun K hK => ?_
  rcases hown.2 with ⟨h0, _⟩ | ⟨g', cap, cur, h0, hbase, hg, hnc, hcm, hsize, htake⟩
  · cases h0
  · cases h0
    have hfit : cs.length ≤ cur.size := by rw [hn, hsize]; exact Nat.mul_le_mul_right _ hnc
    have hrun := run_copy_all (P := P) w dT sT o.type elem g n dCap ad sCap k cur t cs hu hsz hg hn hsrc hfit h1
    unfold Oper.wp
    simp [execOp, ho, resolve, invoke, builtin, hd, hs, hrun, Result.andThen]
    refine hK _ _ (h _ ⟨hn, .inr ⟨g, dCap, _, rfl, hbase, setRow_heap w g _ _ t _ hg, hnc, hcm, ?_, ?_⟩⟩ ⟨rfl, rfl, rfl, by simp [World.setRow], fun i hi hne => setRow_other w g i _ (fun e => hne (by rw [e]))⟩)
    · simp
      omega
    · rw [← hn]
      simp
theorem one_cell {W W1 : World} {g : Nat} {v : Value} {t : TypeId} (hW : W1 = W.alloc (.cells #[v] t (0, 0))) (hg : g = W.heap.size) : ∀ (j : Nat) (u : Value), [v][j]? = some u → W1.cell? ((⟨g, 0, none⟩ : Addr).add j) = some u := by
  intro j u hu
  subst hW
  subst hg
  cases j with
  | zero =>
    simp at hu
    subst hu
    rw [add_plain]
    exact (blk_cell (blk_new W _) 0).trans rfl
  | succ j => simp at hu
theorem below_of_none {w w1 : World} (h : w.grownBy w1 none) : Below w.heap.size w w1 := ⟨h.os, h.tape, h.output, h.size, fun i hi => h.block i hi (by simp)⟩
def Stk (w : World) (g : Nat) (ps : List (List S84)) (cost : Int) : Prop :=
  ∃ A c, w.heap[g]? = some (.cells #[.slice A ps.length c, .int .i64 cost] 32 (0, 0)) ∧ ps.length ≤ c ∧ Kd.F (Kd.slice 84 k84) w (fun k => k ≠ g) A ps.length ps
theorem Stk.below {w w1 : World} {g : Nat} {ps : List (List S84)} {cost : Int} (h : Stk w g ps cost) (hb : Below w.heap.size w w1) : Stk w1 g ps cost := by
  obtain ⟨A, c, h1, h2, h3⟩ := h
  exact ⟨A, c, blk_below h1 hb, h2, Kd.F_below h3 hb⟩
set_option maxHeartbeats 4000000 in
set_option maxRecDepth 100000 in
theorem len_calls (w : World) (g : Nat) (ps : List (List S84)) (cost : Int) (h : Stk w g ps cost) :
    Calls Try.prog 13 #[.pointer (some ⟨g, 0, none⟩)] w fun e w' => e = .returned (.int .i64 (ps.length : Int)) ∧ w = w' := by
  obtain ⟨A, c, h1, h2, h3⟩ := h
  have c0 : w.cell? ⟨g, 0, none⟩ = some (.slice A ps.length c) := (blk_cell h1 0).trans rfl
  clear h1 h3
  go_enter Try.func13, Try.ntmps13
  go_wp2
  go_ret
  exact ⟨rfl, rfl⟩
set_option maxHeartbeats 4000000 in
set_option maxRecDepth 100000 in
theorem cost_calls (w : World) (g : Nat) (ps : List (List S84)) (cost : Int) (h : Stk w g ps cost) :
    Calls Try.prog 8 #[.pointer (some ⟨g, 0, none⟩)] w fun e w' => e = .returned (.int .i64 cost) ∧ w = w' := by
  obtain ⟨A, c, h1, h2, h3⟩ := h
  have c0 : w.cell? ⟨g, 1, none⟩ = some (.int .i64 cost) := (blk_cell h1 1).trans rfl
  clear h1 h3
  go_enter Try.func8, Try.ntmps8
  go_wp2
  go_ret
  exact ⟨rfl, rfl⟩
theorem attached {w w3 w4 w5 : World} {g : Nat} {B : Option Addr} {cb b2 cc2 g5 c5 B0 : Nat} {ps : List (List S84)} {l : List S84} {cost : Int} {olds : List Value}
    (hg : w.grownBy w3 (some g)) (K3 : w3.heap[g]? = some (.cells #[.slice B ps.length cb, .int .i64 cost] 32 (0, 0)))
    (HOL : Reps (fun x c => Kd.FK (Kd.slice 84 k84) w3 (fun k => k ≠ g) x c) 1 ps olds) (L3 : k84.C w3 (some ⟨b2, 0, none⟩) l.length l) (hb2 : b2 ≠ g) (hl : l.length ≤ cc2)
    (hb : Below w3.heap.size w3 w4) (HO5 : w5.ownsRow B0 42 1 (.slice (some ⟨g5, 0, none⟩) (ps.length + 1) c5) (ps.length + 1) (olds ++ [.slice (some ⟨b2, 0, none⟩) l.length cc2])) (hB0 : g < B0) (HG5 : w4.grownBy w5 none) :
    (w5.setCell ⟨g, 0, none⟩ (.slice (some ⟨g5, 0, none⟩) (ps.length + 1) c5)).heap[g]? = some (.cells #[.slice (some ⟨g5, 0, none⟩) (ps.length + 1) c5, .int .i64 cost] 32 (0, 0)) ∧
    Kd.F (Kd.slice 84 k84) (w5.setCell ⟨g, 0, none⟩ (.slice (some ⟨g5, 0, none⟩) (ps.length + 1) c5)) (fun k => k ≠ g) (some ⟨g5, 0, none⟩) (ps.length + 1) (ps ++ [l]) ∧
    w.grownBy (w5.setCell ⟨g, 0, none⟩ (.slice (some ⟨g5, 0, none⟩) (ps.length + 1) c5)) (some g) ∧ ps.length + 1 ≤ c5 := by
  have hb5 := below_of_none HG5
  have K4 := blk_below K3 hb
  have K5 := blk_below K4 hb5
  have hmine : Kd.FK (Kd.slice 84 k84) w3 (fun k => k ≠ g) l [.slice (some ⟨b2, 0, none⟩) l.length cc2] := by
    refine Kd.FK_slice_mk hl (rows_F ?_ hb2)
    obtain ⟨h1, h2, h3⟩ := L3
    refine ⟨h1, h2, fun hn => ?_⟩
    obtain ⟨ad, e, hc⟩ := h3 hn
    refine ⟨ad, e, fun j p hj => ?_⟩
    obtain ⟨c, e1, e2, e3⟩ := hc j p hj
    exact ⟨c, e1, by rw [k84_open e2]; exact k84_mkF _ _ _, e3⟩
  have hreps : Reps (fun x c => Kd.FK (Kd.slice 84 k84) w5 (fun k => k ≠ g) x c) 1 (ps ++ [l]) (olds ++ [.slice (some ⟨b2, 0, none⟩) l.length cc2]) :=
    (HOL.snoc hmine rfl).imp_ (fun _ _ h => Kd.FK_below (Kd.FK_below h hb) hb5)
  obtain ⟨A, c, he, hrow⟩ := own_reads_row HO5 hreps (by simp)
  cases he
  have hne : g5 ≠ g := by
    have := own_base HO5 g5 rfl
    omega
  have hle : ps.length + 1 ≤ c5 := own_le HO5
  refine ⟨blk_put K5 0 _ rfl, ?_, gr_set (gr_below (gr_below hg hb) hb5) 0 _, hle⟩
  exact Kd.F_far (rows_F hrow hne) (p := ⟨g, 0, none⟩) (fun k hk => hk) _
set_option maxHeartbeats 8000000 in
set_option maxRecDepth 100000 in
theorem attach_calls (A : Option Addr) (c : Nat) (l : List S84) (w : World) (g : Nat) (ps : List (List S84)) (cost : Int) (hr : k84.C w A l.length l) (hl : ProgOk l) (hs : Stk w g ps cost) (hps : ps.length < 32) (hc0 : 0 ≤ cost) (hc : cost + l.length + 4 ≤ 32768) :
    Calls Try.prog 7 #[.pointer (some ⟨g, 0, none⟩), .slice A l.length c] w fun e w' => e = .returned (.int .i64 0) ∧ Stk w' g (ps ++ [l]) (cost + l.length + 4) ∧ w.grownBy w' (some g) := by
  obtain ⟨B, cb, h1, h2, h3⟩ := hs
  have HR := Aside0.mk hr
  have HL := Aside0.mk hl
  have H1 := Aside0.mk h1
  have H3 := Aside0.mk h3
  have hl0 := hl.1
  have hlm := hl.2.1
  clear hr hl h1 h3
  go_enter Try.func7, Try.ntmps7
  go_wp2_with fail
  refine (check_ok A c l _ HR.out HL.out).mono ?_
  rintro e w1 ⟨rfl, hb⟩
  have HB1 := Aside0.mk hb
  have k1 := blk_below H1.out hb
  clear hb
  have c0 : w1.cell? ⟨g, 0, none⟩ = some (.slice B ps.length cb) := (blk_cell k1 0).trans rfl
  have c1 : w1.cell? ⟨g, 1, none⟩ = some (.int .i64 cost) := (blk_cell k1 1).trans rfl
  have K1 := Aside0.mk k1
  clear k1
  have e1 : decide ((32 : Int) ≤ (ps.length : Int)) = false := decide_eq_false (by omega)
  have e2 : decide (32 ≤ ps.length) = false := decide_eq_false (by omega)
  have e3 : decide (32768 < cost + (l.length : Int) + 4) = false := decide_eq_false (by omega)
  obtain ⟨ad, ea, _⟩ := at_T84 HR.out 0 (by omega) (by omega)
  cases ea
  obtain ⟨cs, hcs, hcc⟩ := ReadsRow.inner_ (Kd.C_below HR.out HB1.out)
  have HCS := Aside0.mk hcs
  have HCC := Aside0.mk hcc
  clear hcs hcc
  have HI84 : Aside0 ((Try.prog.info? 84).map (·.size) = some 4) := ⟨by kernel_rfl⟩
  go_wp2_with (first
    | ((with_reducible refine gate_dst (N := 37) rfl ?_); refine Kd.R_make k84 (w0 := w1) (W := w1) w1.heap.size 84 ?hg (N := 37) ?hd 42 (.tmp 36) (.tmp 36) ?ho (l.length : Int) ?hx ?hy Try.underlying42 (.agg #[(.int .u16 0), (.int .u8 0), (.int .u8 0), (.int .u32 0)]) 8 info84 rfl (by decide) (by decide) z84 (ok := fun _ => True) (okp := fun _ => True) (k84_mkM _ _ _ z84) (fun _ h => h) trivial (by omega) (by omega) (Below.refl _ _) (Nat.le_refl _) ?_; (case hd => rfl); (case hg => rfl); (case ho => rfl); (case hx => rfl); (case hy => rfl); intro v2 w2 ho2 hb2 hg2 hat2; obtain ⟨b2, cc2, rfl, hbase2, hlt2, _⟩ := Kd.R_form ho2 (by rw [List.length_replicate]; omega); rw [List.length_replicate, Int.toNat_natCast] at ho2; rw [List.length_replicate, Int.toNat_natCast]; have HO2 := Aside0.mk ho2; have HB2 := Aside0.mk hb2; have HBS2 := Aside0.mk (And.intro hbase2 hlt2); clear ho2 hb2 hg2 hat2 hbase2 hlt2)
    | ((with_reducible refine gate_dst (N := 40) rfl ?_); obtain ⟨_, inner2, hown2, _⟩ := HO2.out; rw [List.length_replicate] at hown2; refine wpList_copy_all rfl (.tmp 38) (.tmp 39) 42 42 rfl 84 4 Try.underlying42 HI84.out b2 l.length cc2 ad c rfl rfl 84 w1.heap.size inner2 hown2 cs HCS.out.1 (fun j u hj => pw_cell_below HB2.out (HCC.out j u hj)) (Kd.reps_one HCS.out (by decide) (fun p c h => k84.K_one h)) ?_; intro w3 ho3 hg3; have HO3 := Aside0.mk ho3; have HG3 := Aside0.mk hg3; clear ho3 hg3 hown2))
  have HB3 := Aside0.mk (below_of_gr (g := b2) (B := w1.heap.size) HB2.out.size HG3.out HBS2.out.1 HB2.out)
  have K3 := Aside0.mk (blk_below K1.out HB3.out)
  have F3 := Aside0.mk (Kd.F_below (Kd.F_below H3.out HB1.out) HB3.out)
  have L3 : Aside0 (k84.C w3 (some ⟨b2, 0, none⟩) l.length l) := ⟨by
    obtain ⟨A, c, he, hrow⟩ := own_reads_row HO3.out (HCS.out.imp_ (R' := k84.K w3) (fun p c h => by rw [k84_open h]; exact k84_mk w3 p)) rfl
    cases he
    exact hrow⟩
  obtain ⟨olds, hol, hoc⟩ : ∃ olds : List Value, Reps (fun x c => Kd.FK (Kd.slice 84 k84) w3 (fun k => k ≠ g) x c) 1 ps olds ∧ ∀ b, B = some b → ∀ j u, olds[j]? = some u → w3.cell? (b.add j) = some u := by
    have hrow := Kd.F_rows F3.out
    cases hB : B with
    | none =>
      have h0 : ps.length = 0 := by
        rcases Nat.eq_zero_or_pos ps.length with h0 | h0
        · exact h0
        · obtain ⟨ad, h, _⟩ := hrow.2.2 h0
          rw [hB] at h
          cases h
      obtain rfl : ps = [] := List.eq_nil_of_length_eq_zero h0
      exact ⟨[], Reps.none _ _, fun b hb => by cases hb⟩
    | some b =>
      rw [hB] at hrow
      obtain ⟨olds, h1, h2⟩ := ReadsRow.inner_ hrow
      exact ⟨olds, h1, fun b' hb' => by cases hb'; exact h2⟩
  have HOL := Aside0.mk hol
  have HOC := Aside0.mk hoc
  have x0 : w3.cell? ⟨g, 0, none⟩ = some (.slice B ps.length cb) := (blk_cell K3.out 0).trans rfl
  have f0 := blk_frozen K3.out 0
  have hglt := blk_lt K3.out
  have HGL := Aside0.mk hglt
  obtain ⟨i42, hi42, hz42⟩ := Option.map_eq_some_iff.1 info42
  simp only [Prod.mk.injEq] at hz42
  have HI42 := Aside0.mk hi42
  have HZ42 := Aside0.mk hz42
  clear hol hoc c0 c1 H1 H3 HR HCS HCC HO2 HB2 HG3 HL hglt hi42 hz42
  have HBW := Aside0.mk (Below.refl w3.heap.size w3)
  have HBN : Aside0 (B = none → ps.length = 0 ∧ ps.length = 0) := ⟨fun h => by
    have h1 := Kd.F_now F3.out
    rcases Nat.eq_zero_or_pos ps.length with h0 | h0
    · exact ⟨h0, h0⟩
    · obtain ⟨ad, h2, _⟩ := h1.2.2 h0
      rw [h] at h2
      cases h2⟩
  have HGW := Aside0.mk (gr_below (gr_below (gr_refl w (some g)) HB1.out) HB3.out)
  have HNE : Aside0 (b2 ≠ g) := ⟨fun h => by have := HBS2.out.1; have := blk_lt K1.out; omega⟩
  have HLE := Aside0.mk (own_le HO3.out)
  have HB0 : Aside0 (g < (w3.drew.alloc (.cells #[.slice (some ⟨b2, 0, none⟩) l.length cc2] 42 (0, 0))).heap.size) := ⟨by have := HGL.out; simp; omega⟩
  have x0a : (w3.alloc (.cells #[.slice (some ⟨b2, 0, none⟩) l.length cc2] 42 (0, 0))).cell? ⟨g, 0, none⟩ = some (.slice B ps.length cb) := pw_cell_below (below_alloc HBW.out _) x0
  go_cut [] (fun wc => ∃ g5 c5 : Nat, Aside0 (wc.heap[g]? = some (.cells #[.slice (some ⟨g5, 0, none⟩) (ps.length + 1) c5, .int .i64 cost] 32 (0, 0))) ∧ Aside0 (Kd.F (Kd.slice 84 k84) wc (fun k => k ≠ g) (some ⟨g5, 0, none⟩) (ps.length + 1) (ps ++ [l])) ∧ Aside0 (w.grownBy wc (some g)) ∧ Aside0 (ps.length + 1 ≤ c5))
  case first =>
    go_region_law (first | (refine step_append_grows (by rfl) (.tmp 56) (.tmp 58) 30 (by rfl) 42 i42 (.slice none 0 0) 1 24 Try.underlying30 HI42.out HZ42.out.1 HZ42.out.2.1 HZ42.out.2.2 rfl (by decide) B ps.length ps.length olds (by first | rfl | simp) HBN.out HOL.out.1 (fun b hb j u hu => pw_cell_below (below_alloc (below_drew HBW.out) _) (HOC.out b hb j u hu)) ⟨w3.heap.size, 0, none⟩ 1 1 [.slice (some ⟨b2, 0, none⟩) l.length cc2] (by first | rfl | simp) rfl (one_cell (W := w3.drew) (by rfl) rfl) (fun u hu => by simp at hu; subst hu; rfl) (by omega) (by unfold maxLen; omega) (by omega) ?_; intro v5 w5 hown5 hg5; obtain ⟨g5, c5, rfl, _⟩ := hown5.form (by omega); have HO5 := Aside0.mk hown5; have HG5 := Aside0.mk hg5; have K5 := Aside0.mk (gr_blk hg5 (blk_alloc (blk_drew K3.out) _) (by simp)); have KS : Aside0 (w5.cell? ⟨g, 0, none⟩ = some (.slice B ps.length cb)) := ⟨(blk_cell K5.out 0).trans rfl⟩; have x5 := KS.out; have f5 := blk_frozen K5.out 0; clear hown5 hg5) | fail)
    all_goals
      go_wp2
      go_meet
      case rel =>
        obtain ⟨q1, q2, q3, q4⟩ := attached HGW.out K3.out HOL.out L3.out HNE.out HLE.out (below_alloc (below_drew HBW.out) _) HO5.out HB0.out HG5.out
        exact ⟨g5, c5, ⟨q1⟩, ⟨q2⟩, ⟨q3⟩, ⟨q4⟩⟩
  case rest =>
    obtain ⟨g5, c5, Q1, Q2, Q3, Q4⟩ := hcut
    have x1 : wc.cell? ⟨g, 1, none⟩ = some (.int .i64 cost) := (blk_cell Q1.out 1).trans rfl
    have f1 := blk_frozen Q1.out 1
    clear x0 x0a f0
    go_wp2
    go_ret
    refine ⟨rfl, ⟨some ⟨g5, 0, none⟩, c5, ?_, ?_, ?_⟩, gr_set Q3.out _ _⟩
    · rw [List.length_append, List.length_singleton]
      exact blk_put Q1.out 1 _ rfl
    · rw [List.length_append, List.length_singleton]
      exact Q4.out
    · rw [List.length_append, List.length_singleton]
      exact Kd.F_far Q2.out (p := ⟨g, 1, none⟩) (fun k hk => hk) _
end Go.Proofs.Ytidnojkijfinaaa.Fns
