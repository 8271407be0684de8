/- Part of the proof of TopVerdictSaid. -/
import Derived.Test.YtidnojkijfinaaaQTpNorm
import Derived.Test.YtidnojkijfinaaaQTpPlay
import Derived.Test.YtidnojkijfinaaaQFns4
namespace Go.Proofs.Ytidnojkijfinaaa.Fns
open Go.RowKit Go.Proofs.YtidnojkijfinaaaW.PrintWords Go.Proofs.YtidnojkijfinaaaW.PrintLast Go.Proofs.YtidnojkijfinaaaW.PrintMore
attribute [local go_sem] max2_int min2_int max_two min_two max_three min_three max_four min_four
set_option linter.unusedVariables false
set_option linter.unusedSimpArgs false
theorem DT.arg_cell (d : DT) (n : Nat) (h : n ≤ 5) : d.cells[3 + n]? = some (.int .u64 (d.arg n)) := by
  have : n = 0 ∨ n = 1 ∨ n = 2 ∨ n = 3 ∨ n = 4 ∨ n = 5 := by omega
  rcases this with rfl | rfl | rfl | rfl | rfl | rfl <;> rfl
theorem info27 (d : DT) : (Try.prog.info? 27).map (·.size) = some d.cells.size := by
  have h : (Try.prog.info? 27).map (·.size) = some 9 := by kernel_rfl
  exact h
def heldB (op x v : Int) : Bool := if op = 1 ∨ op = 2 then x == v else if op = 5 ∨ op = 4 then decide (v < x) else decide (v ≤ x)
def holdsB (c : S98) (d : DT) : Bool := heldB c.f1 (bits .and .u64 (d.arg c.f0.toNat) c.f2) c.f3 != wayNot c.f1
set_option maxHeartbeats 4000000 in
set_option maxRecDepth 100000 in
theorem same_calls (x v : Int) (w : World) : Calls Try.prog 84 #[.int .u64 x, .int .u64 v] w fun e w' => e = .returned (.bool (x == v)) ∧ w' = w := by
  go_enter Try.func84, Try.ntmps84
  go_wp2
  go_ret
  exact ⟨rfl, rfl⟩
set_option maxHeartbeats 4000000 in
set_option maxRecDepth 100000 in
theorem greater_calls (x v : Int) (w : World) : Calls Try.prog 85 #[.int .u64 x, .int .u64 v] w fun e w' => e = .returned (.bool (decide (v < x))) ∧ w' = w := by
  go_enter Try.func85, Try.ntmps85
  go_wp2
  go_ret
  exact ⟨rfl, rfl⟩
set_option maxHeartbeats 4000000 in
set_option maxRecDepth 100000 in
theorem atLeast_calls (x v : Int) (w : World) : Calls Try.prog 86 #[.int .u64 x, .int .u64 v] w fun e w' => e = .returned (.bool (decide (v ≤ x))) ∧ w' = w := by
  go_enter Try.func86, Try.ntmps86
  go_wp2
  go_ret
  exact ⟨rfl, rfl⟩
def S98.cells (c : S98) : Array Value := #[.int .i64 c.f0, .int .i64 c.f1, .int .u64 c.f2, .int .u64 c.f3]
set_option maxHeartbeats 8000000 in
set_option maxRecDepth 100000 in
theorem holds_calls (c : S98) (d : DT) (w : World) (h0 : 0 ≤ c.f0) (h5 : c.f0 ≤ 5) (h1 : 1 ≤ c.f1) (h6 : c.f1 ≤ 6) :
    Calls Try.prog 47 #[.agg c.cells, .agg d.cells] w fun e w' => e = .returned (.bool (holdsB c d)) ∧ Below w.heap.size w w' := by
  obtain ⟨a, op, m, v⟩ := c
  simp only at h0 h5 h1 h6
  obtain ⟨n, rfl⟩ : ∃ n : Nat, a = (n : Int) := ⟨a.toNat, by omega⟩
  unfold S98.cells
  have hu27 := Try.underlying27
  have hu25 := Try.underlying25
  have hu98 := Try.underlying98
  have HD : d.cells = #[.int .u32 d.nr, .int .u32 d.arch, .int .u64 d.ip, .int .u64 d.a0, .int .u64 d.a1, .int .u64 d.a2, .int .u64 d.a3, .int .u64 d.a4, .int .u64 d.a5] := rfl
  have HDA := Aside0.mk HD
  have p1 : (0 ≤ (n : Int)) = True := eq_true (by omega)
  have p2 : ((n : Int) < 6) = True := eq_true (by omega)
  have p3 : (n < 6) = True := eq_true (by omega)
  have HN := Aside0.mk h5
  have HR := Aside0.mk (fun W => right_at (n : Int) op m v h0 h5 h1 h6 W)
  have HWY := Aside0.mk (fun W => way_at op h1 h6 W)
  rw [HD]
  clear HD h0 h5
  have hop : op = 1 ∨ op = 2 ∨ op = 3 ∨ op = 4 ∨ op = 5 ∨ op = 6 := by omega
  clear h1 h6
  have HP : Aside0 (holdsB ⟨(n : Int), op, m, v⟩ d = (heldB op (bits .and .u64 (d.arg n) m) v != wayNot op)) := ⟨rfl⟩
  go_enter Try.func47, Try.ntmps47
  go_wp2_with fail
  rw [← HDA.out]
  refine (HR.out _).mono ?_
  rintro e w1 ⟨rfl, rfl⟩
  have hb : Below w.heap.size w (((w.alloc (.cells #[.int .i64 (n : Int), .int .i64 op, .int .u64 m, .int .u64 v] 98)).alloc (.cells d.cells 27)).alloc (.cells #[.int .i64 (n : Int), .int .i64 op, .int .u64 m, .int .u64 v] 98)) := below_alloc (below_alloc (below_alloc (Below.refl _ _) _) _) _
  have k1 := blk_alloc (blk_alloc (blk_new w (.cells #[.int .i64 (n : Int), .int .i64 op, .int .u64 m, .int .u64 v] 98 (0, 0))) (.cells d.cells 27 (0, 0))) (.cells #[.int .i64 (n : Int), .int .i64 op, .int .u64 m, .int .u64 v] 98 (0, 0))
  have k2 := blk_alloc (blk_new1 w (.cells #[.int .i64 (n : Int), .int .i64 op, .int .u64 m, .int .u64 v] 98 (0, 0)) (.cells d.cells 27 (0, 0))) (.cells #[.int .i64 (n : Int), .int .i64 op, .int .u64 m, .int .u64 v] 98 (0, 0))
  generalize ((w.alloc (.cells #[.int .i64 (n : Int), .int .i64 op, .int .u64 m, .int .u64 v] 98)).alloc (.cells d.cells 27)).alloc (.cells #[.int .i64 (n : Int), .int .i64 op, .int .u64 m, .int .u64 v] 98) = w2 at hb k1 k2 ⊢
  have x0 : w2.cell? ⟨w.heap.size, 0, none⟩ = some (.int .i64 (n : Int)) := (blk_cell k1 0).trans rfl
  have x1 : w2.cell? ⟨w.heap.size, 1, none⟩ = some (.int .i64 op) := (blk_cell k1 1).trans rfl
  have x2 : w2.cell? ⟨w.heap.size, 2, none⟩ = some (.int .u64 m) := (blk_cell k1 2).trans rfl
  have x3 : w2.cell? ⟨w.heap.size, 3, none⟩ = some (.int .u64 v) := (blk_cell k1 3).trans rfl
  have y : w2.cell? ⟨w.heap.size + 1, 3 + n, none⟩ = some (.int .u64 (d.arg n)) := (blk_cell k2 (3 + n)).trans (d.arg_cell n (by have := HN.out; omega))
  have HB := Aside0.mk hb
  clear hb k1 k2
  go_wp2_with fail
  refine (HWY.out _).mono ?_
  rintro e w3 ⟨rfl, rfl⟩
  clear HWY HR
  generalize d.arg n = z at y HP
  rcases hop with rfl | rfl | rfl | rfl | rfl | rfl
  all_goals
    simp only [wayFn, wayOp, wayNot]
    go_wp2_with fail
    go_quiet ((first | (go_at_call 84; exact Calls.quiet_of_same (same_calls _ _ _)) | (go_at_call 85; exact Calls.quiet_of_same (greater_calls _ _ _)) | (go_at_call 86; exact Calls.quiet_of_same (atLeast_calls _ _ _))))
    go_wp2
    go_ret
    exact ⟨by rw [HP.out]; simp [heldB, wayNot], pw_below_drewN HB.out _⟩
def nameOf (nr : Int) : Option ByteArray := (callsTab.find? (fun x => x.f1 == nr)).map (·.f0)
theorem name_loop (n : Int) : ∀ (d k i : Nat), i + d = callsTab.length → d < k → mean_Name.l0 k n callsTab (callsTab.length : Int) (i : Int) = some (match ((callsTab.drop i).find? (fun x => x.f1 == n)).map (·.f0) with | some v => (v, true) | none => ((⟨#[]⟩ : ByteArray), false))
  | 0, k + 1, i, h, _ => by
    rw [mean_Name.l0, if_neg (by omega), show i = callsTab.length by omega, List.drop_length]
    rfl
  | d + 1, k + 1, i, h, hk => by
    have hl : callsTab.length = 30 := rfl
    have ih := name_loop n d k (i + 1) (by omega) (by omega)
    have hlt : i < callsTab.length := by omega
    rw [mean_Name.l0, if_pos (by omega), if_pos (by omega), if_pos (by omega)]
    have e1 : rd_T109 callsTab (i : Int) = callsTab[i] := by simp [rd_T109, List.getD_eq_getElem?_getD, hlt]
    rw [e1, List.drop_eq_getElem_cons hlt, List.find?_cons]
    by_cases hq : callsTab[i].f1 = n
    · rw [if_pos hq, beq_iff_eq.mpr hq]
      rfl
    · rw [if_neg hq, beq_eq_false_iff_ne.mpr hq]
      rw [show wrap64 ((i : Int) + 1) = ((i + 1 : Nat) : Int) by rw [IntWalk.wrap64_in _ (by omega)]; rfl]
      exact ih
theorem name_is (n : Int) : mean_Name.f 40 n = some (match nameOf n with | some v => (v, true) | none => ((⟨#[]⟩ : ByteArray), false)) := by
  have := name_loop n callsTab.length 40 0 (by omega) (by decide)
  exact this
def hasB (l : List ByteArray) (n : ByteArray) : Bool := l.any (fun s => n.toList == s.toList)
theorem index_loop (l : List ByteArray) (n : ByteArray) (hl : l.length ≤ 9223372036854775807) : ∀ (d k i : Nat), i + d = l.length → d < k → ∃ r, slices_Index_string_string.l0 k l n (l.length : Int) (i : Int) = some r ∧ decide (r ≥ 0) = hasB (l.drop i) n
  | 0, k + 1, i, h, _ => by
    refine ⟨-1, by rw [slices_Index_string_string.l0, if_neg (by omega)], ?_⟩
    rw [show i = l.length by omega, List.drop_length]
    rfl
  | d + 1, k + 1, i, h, hk => by
    have hlt : i < l.length := by omega
    rw [slices_Index_string_string.l0, if_pos (by omega), if_pos (by omega), if_pos (by omega)]
    have e1 : rdOf ByteArray.empty l (i : Int) = l[i] := by simp [rdOf, List.getD_eq_getElem?_getD, hlt]
    rw [e1, List.drop_eq_getElem_cons hlt]
    by_cases hq : n.toList = l[i].toList
    · rw [if_pos hq]
      refine ⟨_, rfl, ?_⟩
      rw [hasB, List.any_cons, beq_iff_eq.mpr hq]
      simp
    · rw [if_neg hq]
      rw [show wrap64 ((i : Int) + 1) = ((i + 1 : Nat) : Int) by rw [IntWalk.wrap64_in _ (by omega)]; rfl]
      obtain ⟨r, h1, h2⟩ := index_loop l n hl d k (i + 1) (by omega) (by omega)
      refine ⟨r, h1, ?_⟩
      rw [h2, hasB, hasB, List.any_cons, beq_eq_false_iff_ne.mpr hq, Bool.false_or]
theorem contains_is (l : List ByteArray) (n : ByteArray) (hl : l.length ≤ 9223372036854775807) : slices_Contains_string_string.f (l.length + 1) l n = some (hasB l n) := by
  obtain ⟨r, h1, h2⟩ := index_loop l n hl l.length (l.length + 1) 0 (by omega) (by omega)
  unfold slices_Contains_string_string.f slices_Index_string_string.f
  rw [show (0 : Int) = ((0 : Nat) : Int) from rfl, h1]
  simp only [Option.bind_some]
  have h3 : decide (r ≥ ((0 : Nat) : Int)) = hasB (l.drop 0) n := h2
  rw [h3]
  rfl
def meetsB (r : S72) (d : DT) : Bool := match nameOf d.nr with
  | none => false
  | some n => hasB r.f1 n && r.f2.all (fun c => holdsB c d)
def CondsOk (l : List S98) : Prop := ∀ c ∈ l, 0 ≤ c.f0 ∧ c.f0 ≤ 5 ∧ 1 ≤ c.f1 ∧ c.f1 ≤ 6
theorem all_drop (l : List S98) (f : S98 → Bool) (k : Nat) (h : k < l.length) : (l.drop k).all f = (f l[k] && (l.drop (k + 1)).all f) := by rw [List.drop_eq_getElem_cons h, List.all_cons]
set_option maxHeartbeats 16000000 in
set_option maxRecDepth 100000 in
theorem meets_calls (a0 a1 : Int) (A1 : Option Addr) (c1 : Nat) (l1 : List ByteArray) (A2 : Option Addr) (c2 : Nat) (l2 : List S98) (d : DT) (w : World) (r : Bool) (hr1 : Kd.C Kd.string w A1 l1.length l1) (hc1 : l1.length ≤ c1) (hr2 : Kd.C k98 w A2 l2.length l2) (hc2 : l2.length ≤ c2)
    (ho : CondsOk l2) (h : meetsB ⟨⟨a0, a1⟩, l1, l2⟩ d = r) :
    Calls Try.prog 27 #[.agg #[.int .i64 a0, .int .i64 a1, .slice A1 l1.length c1, .slice A2 l2.length c2], .agg d.cells] w fun e w' => e = .returned (.bool r) ∧ Below w.heap.size w w' := by
  have HM1 := Aside0.mk (Kd.C_max hr1)
  have HM2 := Aside0.mk (Kd.C_max hr2)
  have HR1 := Aside0.mk hr1
  have HR2 := Aside0.mk hr2
  have HC1 := Aside0.mk hc1
  have HO := Aside0.mk ho
  have HNM := Aside0.mk (name_is d.nr)
  have HCT := fun n => contains_is l1 n HM1.out
  have HCT' := Aside0.mk HCT
  clear hr1 hr2 ho hc1 hc2 HCT
  have HD : d.cells = #[.int .u32 d.nr, .int .u32 d.arch, .int .u64 d.ip, .int .u64 d.a0, .int .u64 d.a1, .int .u64 d.a2, .int .u64 d.a3, .int .u64 d.a4, .int .u64 d.a5] := rfl
  have HDA := Aside0.mk HD
  have hu72 := Try.underlying72
  have hu27 := Try.underlying27
  unfold meetsB at h
  simp only at h
  cases hn : nameOf d.nr with
  | none =>
    rw [hn] at HNM h
    obtain rfl : false = r := h
    rw [HD]
    clear HD
    go_enter Try.func27, Try.ntmps27
    go_wp2_with fail
    refine (mean_Name.calls 40 d.nr _ _ _ HNM.out).mono ?_
    rintro e w1 ⟨rfl, hb⟩
    have HB1 := Aside0.mk (below_then (below_alloc (below_alloc (Below.refl _ _) _) _) (by simp; omega) hb)
    clear hb
    go_wp2_with fail
    go_ret
    exact ⟨rfl, HB1.out⟩
  | some n =>
    rw [hn] at HNM h
    simp only at h HNM
    rw [HD]
    clear HD
    have HH := Aside0.mk h
    clear h
    go_enter Try.func27, Try.ntmps27
    go_wp2_with fail
    rw [← HDA.out]
    refine (mean_Name.calls 40 d.nr _ _ _ HNM.out).mono ?_
    rintro e w1 ⟨rfl, hb⟩
    have k1 := blk_below (blk_alloc (blk_new w (.cells #[.int .i64 a0, .int .i64 a1, .slice A1 l1.length c1, .slice A2 l2.length c2] 72 (0, 0))) (.cells d.cells 27 (0, 0))) hb
    have k2 := blk_below (blk_new1 w (.cells #[.int .i64 a0, .int .i64 a1, .slice A1 l1.length c1, .slice A2 l2.length c2] 72 (0, 0)) (.cells d.cells 27 (0, 0))) hb
    have HB1 := Aside0.mk (below_then (below_alloc (below_alloc (Below.refl _ _) _) _) (by simp; omega) hb)
    clear hb
    have x2 : w1.cell? ⟨w.heap.size, 2, none⟩ = some (.slice A1 l1.length c1) := (blk_cell k1 2).trans rfl
    have x3 : w1.cell? ⟨w.heap.size, 3, none⟩ = some (.slice A2 l2.length c2) := (blk_cell k1 3).trans rfl
    have K2 := Aside0.mk k2
    clear k1 k2
    go_wp2_with fail
    refine (slices_Contains_string_string.calls (l1.length + 1) A1 c1 l1 n _ w1 (Kd.C_below HR1.out HB1.out) HC1.out (HCT'.out n)).mono ?_
    rintro e w2 ⟨rfl, ⟨⟨m, rfl⟩⟩⟩
    have hh := HH.out
    cases hq : hasB l1 n with
    | false =>
      rw [hq, Bool.false_and] at hh
      subst hh
      clear hq HH HCT'
      go_wp2_with fail
      go_ret
      exact ⟨rfl, pw_below_drewN HB1.out _⟩
    | true =>
      rw [hq, Bool.true_and] at hh
      have HA := Aside0.mk hh
      have HB2 := Aside0.mk (pw_below_drewN HB1.out m)
      have K3 := Aside0.mk (blk_drewN K2.out m)
      have x3' : (w1.drewN m).cell? ⟨w.heap.size, 3, none⟩ = some (.slice A2 l2.length c2) := x3
      clear hq HH HCT' hh HB1 K2 x2 x3
      generalize w1.drewN m = w2 at HB2 K3 x3' ⊢
      go_wp2_with fail
      go_loopw [27] (fun v27 wr => ∃ k : Nat, v27 = .int .i64 (k : Int) ∧ k ≤ l2.length ∧ Aside0 ((l2.drop k).all (fun c => holdsB c d) = r) ∧ Aside0 (Below w.heap.size w wr) ∧ Aside0 (wr.heap[w.heap.size + 1]? = some (.cells d.cells 27 (0, 0)))) (fun v27 _ => l2.length - (intOf v27).toNat)
      case atStart => exact ⟨0, rfl, by omega, HA, HB2, K3⟩
      case round =>
        clear HA HB2 K3 x3'
        obtain ⟨k, rfl, hk, HA, HB2, K3⟩ := hrel
        by_cases hlt : k < l2.length
        · have d1 : decide ((k : Int) < (l2.length : Int)) = true := decide_eq_true (by omega)
          have d2 : decide (k < l2.length) = true := decide_eq_true hlt
          have ha := HA.out
          rw [all_drop _ _ _ hlt] at ha
          obtain ⟨ad, ea, z0, z1, z2, z3⟩ := at_T98 (Kd.C_below HR2.out HB2.out) (k : Int) (by omega) (by omega)
          have hgd : rd_T98 l2 (k : Int) = l2[k] := by simp [rd_T98, List.getD_eq_getElem?_getD, hlt]
          rw [hgd, Int.toNat_natCast] at z0 z1 z2 z3
          have HCO := Aside0.mk (HO.out l2[k] (List.getElem_mem hlt))
          cases ea
          generalize l2[k] = c at ha z0 z1 z2 z3 HCO
          clear hgd
          have HAA := Aside0.mk ha
          have p1 : (0 ≤ (k : Int)) = True := eq_true (by omega)
          have p2 : ((k : Int) < (l2.length : Int)) = True := eq_true (by omega)
          have p3 : (k < l2.length) = True := eq_true (by omega)
          have HL := Aside0.mk hlt
          clear hlt hk ha
          go_wp2_with ((with_reducible refine gate_dst (N := 32) rfl ?_); refine wpList_load_row rfl 27 (.tmp 3) rfl (w.heap.size + 1) rfl 27 _ (0, 0) _ (blk_alloc K3.out _) Try.underlying27 rfl (info27 d) ?_)
          refine (holds_calls c d _ HCO.out.1 HCO.out.2.1 HCO.out.2.2.1 HCO.out.2.2.2).mono ?_
          rintro e w3 ⟨rfl, hb⟩
          have HB3 := Aside0.mk (below_then (below_alloc HB2.out (.cells #[.int .i64 c.f0, .int .i64 c.f1, .int .u64 c.f2, .int .u64 c.f3] 98 (0, 0))) (by have := HB2.out.size; simp; omega) hb)
          have K4 := Aside0.mk (blk_below (blk_alloc K3.out _) hb)
          have HKW := Aside0.mk (show wrap64 ((k : Int) + 1) = ((k + 1 : Nat) : Int) by have := HM2.out; have := HL.out; rw [IntWalk.wrap64_in _ (by omega)]; rfl)
          have haa := HAA.out
          clear hb z0 z1 z2 z3 HA HAA HB2 K3
          cases hq : holdsB c d with
          | false =>
            rw [hq, Bool.false_and] at haa
            subst haa
            go_wp2_with fail
            go_ret
            exact ⟨rfl, HB3.out⟩
          | true =>
            rw [hq, Bool.true_and] at haa
            have HA := Aside0.mk haa
            clear haa hq
            go_wp2_with fail
            rw [HKW.out]
            refine ⟨⟨k + 1, rfl, by have := HL.out; omega, HA, HB3, K4⟩, ?_⟩
            have := HL.out
            simp only [intOf]
            omega
        · have d1 : decide ((k : Int) < (l2.length : Int)) = false := decide_eq_false (by omega)
          have d2 : decide (k < l2.length) = false := decide_eq_false hlt
          have ha := HA.out
          rw [List.drop_eq_nil_of_le (by omega)] at ha
          obtain rfl : true = r := ha
          clear hlt
          go_wp2_with fail
          go_ret
          exact ⟨rfl, HB2.out⟩
def decideB (dk da : Int) (l : List S72) (d : DT) : S35 := if d.arch = 3221225534 then (match l.find? (fun r => meetsB r d) with | some r => r.f0 | none => ⟨dk, da⟩) else ⟨1, 0⟩
theorem find_drop (l : List S72) (f : S72 → Bool) (k : Nat) (h : k < l.length) : (l.drop k).find? f = if f l[k] then some l[k] else (l.drop (k + 1)).find? f := by
  rw [List.drop_eq_getElem_cons h, List.find?_cons]
  cases f l[k] <;> rfl
def a35 (x y : Int) : Obj := .cells #[.int .i64 x, .int .i64 y] 35 (0, 0)
theorem info35 (x y : Int) : (Try.prog.info? 35).map (·.size) = some (#[.int .i64 x, .int .i64 y] : Array Value).size := by
  have h : (Try.prog.info? 35).map (·.size) = some 2 := by kernel_rfl
  exact h
set_option maxHeartbeats 16000000 in
set_option maxRecDepth 100000 in
theorem decide_calls (K : Nat) (dk da : Int) (A : Option Addr) (c : Nat) (l : List S72) (d : DT) (w : World) (r : S35) (hr : Kd.C k72 w A l.length l) (hc : l.length ≤ c)
    (hk : mean_Check.f K dk da l = some (0, -1)) (ho : ∀ r ∈ l, CondsOk r.f2) (h : decideB dk da l d = r) :
    Calls Try.prog 9 #[.agg #[.int .i64 dk, .int .i64 da, .slice A l.length c], .agg d.cells] w fun e w' => e = .returned (.tuple #[.agg #[.int .i64 r.f0, .int .i64 r.f1], .int .i64 0]) ∧ Below w.heap.size w w' := by
  have HM := Aside0.mk (Kd.C_max hr)
  have HR := Aside0.mk hr
  have HC := Aside0.mk hc
  have HK := Aside0.mk hk
  have HO := Aside0.mk ho
  have HH := Aside0.mk h
  clear hr ho hc hk h
  have HD : d.cells = #[.int .u32 d.nr, .int .u32 d.arch, .int .u64 d.ip, .int .u64 d.a0, .int .u64 d.a1, .int .u64 d.a2, .int .u64 d.a3, .int .u64 d.a4, .int .u64 d.a5] := rfl
  have HDA := Aside0.mk HD
  have hu72 := Try.underlying72
  have hu27 := Try.underlying27
  have hu38 := Try.underlying38
  have hu35 := Try.underlying35
  rw [HD]
  clear HD
  go_enter Try.func9, Try.ntmps9
  go_wp2_with fail
  rw [← HDA.out]
  have hb0 := below_alloc (below_alloc (below_alloc (Below.refl w.heap.size w) (.cells #[.int .i64 dk, .int .i64 da, .slice A l.length c] 38 (0, 0))) (.cells d.cells 27 (0, 0))) (a35 0 0)
  refine (mean_Check.calls K dk da A c l 0 (-1) _ (Kd.C_below HR.out hb0) HC.out HK.out).mono ?_
  rintro e w1 ⟨rfl, hb⟩
  have k1 := blk_below (blk_alloc (blk_alloc (blk_new w (.cells #[.int .i64 dk, .int .i64 da, .slice A l.length c] 38 (0, 0))) (.cells d.cells 27 (0, 0))) (a35 0 0)) hb
  have k2 := blk_below (blk_alloc (blk_new1 w (.cells #[.int .i64 dk, .int .i64 da, .slice A l.length c] 38 (0, 0)) (.cells d.cells 27 (0, 0))) (a35 0 0)) hb
  have k3 : w1.heap[w.heap.size + 1 + 1]? = some (a35 0 0) := blk_below (blk_top (o := a35 0 0) (by simp)) hb
  have HB1 := Aside0.mk (below_then hb0 (by simp; omega) hb)
  clear hb hb0
  have x0 : w1.cell? ⟨w.heap.size, 0, none⟩ = some (.int .i64 dk) := (blk_cell k1 0).trans rfl
  have x1 : w1.cell? ⟨w.heap.size, 1, none⟩ = some (.int .i64 da) := (blk_cell k1 1).trans rfl
  have x2 : w1.cell? ⟨w.heap.size, 2, none⟩ = some (.slice A l.length c) := (blk_cell k1 2).trans rfl
  have y1 : w1.cell? ⟨w.heap.size + 1, 1, none⟩ = some (.int .u32 d.arch) := (blk_cell k2 1).trans rfl
  have z0 : w1.cell? ⟨w.heap.size + 1 + 1, 0, none⟩ = some (.int .i64 0) := (blk_cell k3 0).trans rfl
  have z1 : w1.cell? ⟨w.heap.size + 1 + 1, 1, none⟩ = some (.int .i64 0) := (blk_cell k3 1).trans rfl
  have f0 := blk_frozen k3 0
  have f1 := blk_frozen k3 1
  have K1 := Aside0.mk k1
  have K2 := Aside0.mk k2
  have K3 := Aside0.mk k3
  clear k1 k2 k3
  have hh := HH.out
  unfold decideB at hh
  by_cases ha : d.arch = 3221225534
  rotate_left
  · rw [if_neg ha] at hh
    subst hh
    have e1 : (d.arch != 3221225534) = true := by simpa using ha
    clear ha HH
    go_wp2_with fail
    exact bodyPost_ret (results_list (rs := [.cell 4 35, .tmp 5]) rfl (by simp) (.cell (w.heap.size + 1 + 1) 35 #[.int .i64 1, .int .i64 0] (0, 0) _ rfl (blk_put (blk_put K3.out 0 _ rfl) 1 _ rfl) Try.underlying35 rfl (info35 1 0) (.tmp .nil))) rfl ⟨rfl, (HB1.out.setCell (by simp; omega) _).setCell (by simp; omega) _⟩
  · rw [if_pos ha] at hh
    have e1 : (d.arch != 3221225534) = false := by simpa using ha
    have HF := Aside0.mk hh
    clear hh ha HH y1
    have y1 : w1.cell? ⟨w.heap.size + 1, 1, none⟩ = some (.int .u32 d.arch) := (blk_cell K2.out 1).trans rfl
    go_wp2_with fail
    go_loopw [26] (fun v26 wr => ∃ k : Nat, v26 = .int .i64 (k : Int) ∧ k ≤ l.length ∧ Aside0 ((match (l.drop k).find? (fun r => meetsB r d) with | some r => r.f0 | none => ⟨dk, da⟩) = r) ∧ Aside0 (Below w.heap.size w wr) ∧ Aside0 (wr.heap[w.heap.size]? = some (.cells #[.int .i64 dk, .int .i64 da, .slice A l.length c] 38 (0, 0))) ∧ Aside0 (wr.heap[w.heap.size + 1]? = some (.cells d.cells 27 (0, 0))) ∧ Aside0 (wr.heap[w.heap.size + 1 + 1]? = some (a35 0 0))) (fun v26 _ => l.length - (intOf v26).toNat)
    case atStart => exact ⟨0, rfl, by omega, HF, HB1, K1, K2, K3⟩
    case round =>
      clear HF HB1 K1 K2 K3 x0 x1 x2 y1 z0 z1 f0 f1
      obtain ⟨k, rfl, hk, HF, HB1, K1, K2, K3⟩ := hrel
      by_cases hlt : k < l.length
      · have d1 : decide ((k : Int) < (l.length : Int)) = true := decide_eq_true (by omega)
        have d2 : decide (k < l.length) = true := decide_eq_true hlt
        have hf := HF.out
        rw [find_drop _ _ _ hlt] at hf
        obtain ⟨ad, B2, c2, B3, c3, ea, z0, z1, z2, z3, l2, g2, l3, g3⟩ := at_T72 (Kd.C_below HR.out HB1.out) (k : Int) (by omega) (by omega)
        have hgd : rd_T72 l (k : Int) = l[k] := by simp [rd_T72, List.getD_eq_getElem?_getD, hlt]
        rw [hgd] at z0 z1 z2 z3 l2 g2 l3 g3
        rw [Int.toNat_natCast] at z0 z1 z2 z3
        have HCO := Aside0.mk (HO.out l[k] (List.getElem_mem hlt))
        cases ea
        generalize l[k] = q at hf z0 z1 z2 z3 HCO l2 g2 l3 g3
        clear hgd
        obtain ⟨⟨q0, q1⟩, ns, cs⟩ := q
        simp only at z0 z1 z2 z3 HCO l2 g2 l3 g3
        have HFF := Aside0.mk hf
        have G2 := Aside0.mk g2
        have L2 := Aside0.mk l2
        have G3 := Aside0.mk g3
        have L3 := Aside0.mk l3
        have p1 : (0 ≤ (k : Int)) = True := eq_true (by omega)
        have p2 : ((k : Int) < (l.length : Int)) = True := eq_true (by omega)
        have p3 : (k < l.length) = True := eq_true (by omega)
        have HL := Aside0.mk hlt
        clear hlt hk hf g2 l2 g3 l3
        obtain ⟨mq, hmq⟩ : ∃ b, meetsB ⟨⟨q0, q1⟩, ns, cs⟩ d = b := ⟨_, rfl⟩
        have HMQ := Aside0.mk hmq
        clear hmq
        go_wp2_with ((with_reducible refine gate_dst (N := 31) rfl ?_); refine wpList_load_row rfl 27 (.tmp 3) rfl (w.heap.size + 1) rfl 27 _ (0, 0) _ (blk_alloc K2.out _) Try.underlying27 rfl (info27 d) ?_)
        refine (meets_calls q0 q1 B2 c2 ns B3 c3 cs d _ mq (Kd.C_below G2.out (below_alloc (Below.refl _ _) _)) L2.out (Kd.C_below G3.out (below_alloc (Below.refl _ _) _)) L3.out HCO.out HMQ.out).mono ?_
        rintro e w3 ⟨rfl, hb⟩
        have HB3 := Aside0.mk (below_then (below_alloc HB1.out (.cells #[.int .i64 q0, .int .i64 q1, .slice B2 ns.length c2, .slice B3 cs.length c3] 72 (0, 0))) (by have := HB1.out.size; simp; omega) hb)
        have M1 := Aside0.mk (blk_below (blk_alloc K1.out _) hb)
        have M2 := Aside0.mk (blk_below (blk_alloc K2.out _) hb)
        have M3 := Aside0.mk (blk_below (blk_alloc K3.out _) hb)
        have M4 := Aside0.mk (blk_below (blk_new wr (.cells #[.int .i64 q0, .int .i64 q1, .slice B2 ns.length c2, .slice B3 cs.length c3] 72 (0, 0))) hb)
        have HKW := Aside0.mk (show wrap64 ((k : Int) + 1) = ((k + 1 : Nat) : Int) by have := HM.out; have := HL.out; rw [IntWalk.wrap64_in _ (by omega)]; rfl)
        have haa := HFF.out
        rw [HMQ.out] at haa
        clear hb z0 z1 z2 z3 HF HFF HB1 K1 K2 K3 HMQ
        cases mq with
        | true =>
          rw [if_pos rfl] at haa
          subst haa
          have z0 : w3.cell? ⟨w.heap.size + 1 + 1, 0, none⟩ = some (.int .i64 0) := (blk_cell M3.out 0).trans rfl
          have z1 : w3.cell? ⟨w.heap.size + 1 + 1, 1, none⟩ = some (.int .i64 0) := (blk_cell M3.out 1).trans rfl
          have y0 : w3.cell? ⟨wr.heap.size, 0, none⟩ = some (.int .i64 q0) := (blk_cell M4.out 0).trans rfl
          have y1 : w3.cell? ⟨wr.heap.size, 1, none⟩ = some (.int .i64 q1) := (blk_cell M4.out 1).trans rfl
          have f0 := blk_frozen M3.out 0
          have f1 := blk_frozen M3.out 1
          go_wp2_with fail
          exact bodyPost_ret (results_list (rs := [.cell 4 35, .tmp 5]) rfl (by simp) (.cell (w.heap.size + 1 + 1) 35 #[.int .i64 q0, .int .i64 q1] (0, 0) _ rfl (blk_put (blk_put M3.out 0 _ rfl) 1 _ rfl) Try.underlying35 rfl (info35 q0 q1) (.tmp .nil))) rfl ⟨rfl, (HB3.out.setCell (by simp; omega) _).setCell (by simp; omega) _⟩
        | false =>
          rw [if_neg (by simp)] at haa
          have HA := Aside0.mk haa
          clear haa
          go_wp2_with fail
          rw [HKW.out]
          refine ⟨⟨k + 1, rfl, by have := HL.out; omega, HA, HB3, M1, M2, M3⟩, ?_⟩
          have := HL.out
          simp only [intOf]
          omega
      · have d1 : decide ((k : Int) < (l.length : Int)) = false := decide_eq_false (by omega)
        have d2 : decide (k < l.length) = false := decide_eq_false hlt
        have ha := HF.out
        rw [List.drop_eq_nil_of_le (by omega)] at ha
        obtain rfl : (⟨dk, da⟩ : S35) = r := ha
        clear hlt
        have z0 : wr.cell? ⟨w.heap.size + 1 + 1, 0, none⟩ = some (.int .i64 0) := (blk_cell K3.out 0).trans rfl
        have z1 : wr.cell? ⟨w.heap.size + 1 + 1, 1, none⟩ = some (.int .i64 0) := (blk_cell K3.out 1).trans rfl
        have y0 : wr.cell? ⟨w.heap.size, 0, none⟩ = some (.int .i64 dk) := (blk_cell K1.out 0).trans rfl
        have y1 : wr.cell? ⟨w.heap.size, 1, none⟩ = some (.int .i64 da) := (blk_cell K1.out 1).trans rfl
        have f0 := blk_frozen K3.out 0
        have f1 := blk_frozen K3.out 1
        go_wp2_with fail
        exact bodyPost_ret (results_list (rs := [.cell 4 35, .tmp 5]) rfl (by simp) (.cell (w.heap.size + 1 + 1) 35 #[.int .i64 dk, .int .i64 da] (0, 0) _ rfl (blk_put (blk_put K3.out 0 _ rfl) 1 _ rfl) Try.underlying35 rfl (info35 dk da) (.tmp .nil))) rfl ⟨rfl, (HB1.out.setCell (by simp; omega) _).setCell (by simp; omega) _⟩
end Go.Proofs.Ytidnojkijfinaaa.Fns
