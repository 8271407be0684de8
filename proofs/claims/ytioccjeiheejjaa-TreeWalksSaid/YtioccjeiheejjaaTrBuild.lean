/- Build: what it answers. -/
import Derived.Test.YtioccjeiheejjaaTrWalk
import Derived.RangeFuncBox
import Derived.Maps.AppendAt
import Derived.Test.YtioccjeiheejjaaTrRound
namespace Go.Proofs.Ytioccjeiheejjaa.Tree
open Go.RowKit Go.Shelf Go.Proofs.YtioccjeiheejjaaW.PrintWords Go.Proofs.YtioccjeiheejjaaW.PrintLast Go.Proofs.YtioccjeiheejjaaW.PrintMore Go.Proofs.Ytioccjeiheejjaa.Fns
attribute [local go_sem] Oper.semAt_some
set_option linter.unusedVariables false
set_option linter.unusedSimpArgs false

/-- the middles of the parts. -/
def mids (ps : List (Int × Int)) : List Int := (ps.filter (fun x => decide (1 < x.2 - x.1))).map (fun x => x.1 + (x.2 - x.1) / 2)
theorem mids_yes (pre : List (Int × Int)) (x : Int × Int) (h : 1 < x.2 - x.1) : mids (pre ++ [x]) = mids pre ++ [x.1 + (x.2 - x.1) / 2] := by simp [mids, h]
theorem mids_no (pre : List (Int × Int)) (x : Int × Int) (h : ¬ 1 < x.2 - x.1) : mids (pre ++ [x]) = mids pre := by
  have : decide (1 < x.2 - x.1) = false := decide_eq_false h
  simp [mids, this]
theorem mids_len (ps : List (Int × Int)) : (mids ps).length ≤ ps.length := by unfold mids; rw [List.length_map]; exact List.length_filter_le _ _
theorem parts_len : ∀ (d f t : Nat), t - f ≤ d → f < t → (parts d f t).length = 2 * (t - f) - 1
  | 0, f, t, h, h2 => by omega
  | d + 1, f, t, h, h2 => by
    rw [parts, if_neg (by omega)]
    by_cases h1 : t - f = 1
    · rw [if_pos h1, h1]; rfl
    · rw [if_neg h1, List.length_cons, List.length_append, parts_len d f _ (by omega) (by omega), parts_len d _ t (by omega) (by omega)]
      omega
/-- the same, in the machine's own numbers. -/
def midw (x : Int × Int) : Int := wrap64 (x.1 + wrap64 (Int.tdiv (wrap64 (x.2 - x.1)) 2))
def midsw (ps : List (Int × Int)) : List Int := (ps.filter (fun x => decide (1 < wrap64 (x.2 - x.1)))).map midw
theorem midsw_yes (pre : List (Int × Int)) (x : Int × Int) (h : 1 < wrap64 (x.2 - x.1)) : midsw (pre ++ [x]) = midsw pre ++ [midw x] := by simp [midsw, h]
theorem midsw_no (pre : List (Int × Int)) (x : Int × Int) (h : ¬ 1 < wrap64 (x.2 - x.1)) : midsw (pre ++ [x]) = midsw pre := by
  have : decide (1 < wrap64 (x.2 - x.1)) = false := decide_eq_false h
  simp [midsw, this]
theorem midsw_len (ps : List (Int × Int)) : (midsw ps).length ≤ ps.length := by unfold midsw; rw [List.length_map]; exact List.length_filter_le _ _
theorem parts_in : ∀ (d f t : Nat), t ≤ 1000000 → ∀ x ∈ parts d f t, (f : Int) ≤ x.1 ∧ x.1 < x.2 ∧ x.2 ≤ (t : Int)
  | 0, f, t, _, x, hx => by simp [parts] at hx
  | d + 1, f, t, ht, x, hx => by
    rw [parts] at hx
    by_cases h0 : t ≤ f
    · rw [if_pos h0] at hx; simp at hx
    · rw [if_neg h0] at hx
      by_cases h1 : t - f = 1
      · rw [if_pos h1] at hx
        simp only [List.mem_singleton] at hx
        subst hx
        refine ⟨?_, ?_, ?_⟩ <;> simp only <;> omega
      · rw [if_neg h1] at hx
        rcases List.mem_cons.1 hx with rfl | hx
        · refine ⟨?_, ?_, ?_⟩ <;> simp only <;> omega
        · rcases List.mem_append.1 hx with hx | hx
          · have := parts_in d f (f + (t - f) / 2) (by omega) x hx
            omega
          · have := parts_in d (f + (t - f) / 2) t ht x hx
            omega
theorem midsw_is (ps : List (Int × Int)) (h : ∀ x ∈ ps, 0 ≤ x.1 ∧ x.1 < x.2 ∧ x.2 ≤ 1000000) : midsw ps = mids ps := by
  induction ps with
  | nil => rfl
  | cons x ps ih =>
    have hx := h x (by simp)
    have e1 : wrap64 (x.2 - x.1) = x.2 - x.1 := IntWalk.wrap64_in _ (by omega)
    have e2 : midw x = x.1 + (x.2 - x.1) / 2 := by
      unfold midw
      rw [e1, Int.tdiv_eq_ediv_of_nonneg (by omega), IntWalk.wrap64_in ((x.2 - x.1) / 2) (by omega), IntWalk.wrap64_in _ (by omega)]
    have ih2 := ih (fun y hy => h y (List.mem_cons_of_mem _ hy))
    unfold midsw mids at ih2 ⊢
    rw [List.filter_cons, List.filter_cons, e1]
    by_cases hd : 1 < x.2 - x.1
    · rw [if_pos (by simpa using hd), if_pos (by simpa using hd), List.map_cons, List.map_cons, ih2, e2]
    · rw [if_neg (by simpa using hd), if_neg (by simpa using hd), ih2]
/-- What a call leaves: the streams, and all blocks but those of S. -/
structure Kp (S : Nat → Prop) (w w' : World) : Prop where
  os : w'.os = w.os
  tape : w'.tape = w.tape
  output : w'.output = w.output
  size : w.heap.size ≤ w'.heap.size
  block : ∀ i, i < w.heap.size → ¬ S i → w'.heap[i]? = w.heap[i]?
theorem Kp.refl (S : Nat → Prop) (w : World) : Kp S w w := ⟨rfl, rfl, rfl, Nat.le_refl _, fun _ _ _ => rfl⟩
theorem Kp.drewN {S : Nat → Prop} {a b : World} (h : Kp S a b) (n : Nat) : Kp S a (b.drewN n) := ⟨h.os, h.tape, h.output, h.size, h.block⟩
theorem Kp.drew {S : Nat → Prop} {a b : World} (h : Kp S a b) : Kp S a b.drew := ⟨h.os, h.tape, h.output, h.size, h.block⟩
theorem Kp.grown {S : Nat → Prop} {a b c : World} {row : Option Nat} (h : Kp S a b) (k : b.grownBy c row) (hr : ∀ r, row = some r → S r) : Kp S a c :=
  ⟨k.os.trans h.os, k.tape.trans h.tape, k.output.trans h.output, Nat.le_trans h.size k.size, fun i hi hn => (k.block i (Nat.lt_of_lt_of_le hi h.size) (fun e => hn (hr i e.symm))).trans (h.block i hi hn)⟩
theorem Kp.set {S : Nat → Prop} {a b : World} (h : Kp S a b) (g j : Nat) (v : Value) (hg : S g) : Kp S a (b.setCell ⟨g, j, none⟩ v) :=
  ⟨h.os, h.tape, h.output, by simpa [World.setCell] using h.size, fun i hi hn => (Below.heap_setCell b ⟨g, j, none⟩ v i (fun e => hn (by rw [e]; exact hg))).trans (h.block i hi hn)⟩
theorem Kp.below {S : Nat → Prop} {B : Nat} {a b c : World} (h : Below B a b) (k : Kp S b c) (hS : ∀ i, S i → B ≤ i) (hB : B ≤ b.heap.size) : Below B a c :=
  ⟨k.os.trans h.os, k.tape.trans h.tape, k.output.trans h.output, Nat.le_trans h.size k.size, fun i hi => (k.block i (by omega) (fun hs => by have := hS i hs; omega)).trans (h.block i hi)⟩
/-- where S's blocks are cells of no function: whatever is no cells lies, and the boxes of functions. -/
theorem Kp.others {S : Nat → Prop} {a b : World} (k : Kp S a b) (hS : ∀ i, S i → ∃ c q, a.heap[i]? = some (.cells c q (0, 0)) ∧ q ≠ 36) : KeepsOthers a b ∧ KT a b := by
  refine ⟨⟨k.size, fun i o hi ho => ?_⟩, fun i c hc => ?_⟩
  · refine (k.block i (Array.getElem?_eq_some_iff.1 hi).1 (fun hs => ?_)).trans hi
    obtain ⟨c, q, hc, _⟩ := hS i hs
    rw [hc] at hi
    injection hi with hi
    rw [← hi] at ho
    simp [Obj.isCells] at ho
  · refine (k.block i (Array.getElem?_eq_some_iff.1 hc).1 (fun hs => ?_)).trans hc
    obtain ⟨c', q, hc', hq⟩ := hS i hs
    rw [hc'] at hc
    injection hc with hc
    injection hc with _ hc
    exact hq hc
/-- a row of the call's own abides the turn of what is no cells. -/
theorem row_abides {base e : Nat} {W W' : World} {v : Value} {xs : List Int} (h : Kd.R (Kd.int .i64) e W base (fun _ => True) v xs) {row : Option Nat} (hg : W.grownBy W' row) (hr : ∀ r, row = some r → ∃ o : Obj, W.heap[r]? = some o ∧ o.isCells = false) :
    Kd.R (Kd.int .i64) e W' base (fun _ => True) v xs := by
  refine Kd.R_mono (Kd.R_grown (Kd.R_bound h) hg (fun k hk hrow => ?_)) (fun _ _ => trivial)
  obtain ⟨_, _, _, q, _, cells, hc⟩ := hk
  obtain ⟨o, ho, hn⟩ := hr k hrow.symm
  rw [hc] at ho
  injection ho with ho
  rw [← ho] at hn
  simp [Obj.isCells] at hn
theorem box_abides {W W' : World} {B : Nat} {t : TypeId} {v : Value} (h : Boxed W B t v) {row : Option Nat} (hg : W.grownBy W' row) (hr : ∀ r, row = some r → ∃ o : Obj, W.heap[r]? = some o ∧ o.isCells = false) : Boxed W' B t v :=
  h.kept hg (fun e' => by
    obtain ⟨o, ho, hc⟩ := hr B e'.symm
    rw [show W.heap[B]? = _ from h] at ho
    cases ho
    cases hc)
theorem parts_odd (d f t : Nat) : (parts d f t).length ≤ 2 * (t - f) - 1 := by
  induction d generalizing f t with
  | zero => simp [parts]
  | succ d ih =>
    rw [parts]
    by_cases h0 : t ≤ f
    · rw [if_pos h0]; simp
    · rw [if_neg h0]
      by_cases h1 : t - f = 1
      · rw [if_pos h1, h1]; simp
      · rw [if_neg h1, List.length_cons, List.length_append]
        have e1 := ih f (f + (t - f) / 2)
        have e2 := ih (f + (t - f) / 2) t
        omega
theorem parts_le (d f t : Nat) : (parts d f t).length ≤ 2 * (t - f) := Nat.le_trans (parts_odd d f t) (Nat.sub_le _ _)
theorem info3 : (Try.prog.info? 3).map (fun i => (i.zero, i.size, i.bytes)) = some (some (.int .i64 0), 1, 8) := by kernel_rfl

set_option maxRecDepth 100000 in
set_option maxHeartbeats 4000000 in
theorem build_main (A0 : Option Addr) (c0 : Nat) (l0 : List Int) (w : World) (hr0 : Kd.C (Kd.int .u32) w A0 l0.length l0) (hc0 : l0.length ≤ c0) (hl : l0.length ≤ 4096) (k : Nat) (hri : tree_rises.f k l0 = some true) :
    Calls Try.prog 10 #[.slice A0 l0.length c0] w fun e W' => ∃ v, e = .returned (.tuple #[v, .int .i64 0]) ∧ Kd.R (Kd.int .i64) 3 W' w.heap.size (fun _ => True) v (mids (parts l0.length 0 l0.length)) ∧ Below w.heap.size w W' := by
  refine (callsIn_wide (n := 6)).1 ?_
  obtain ⟨i0, hi, hz0, hz1, hz2⟩ := info_parts info3
  have d0 : decide ((4096 : Int) < (l0.length : Int)) = false := decide_eq_false (by omega)
  have d1 : decide (4096 < l0.length) = false := decide_eq_false (by omega)
  have HR0 := Aside0.mk hr0
  have HC0 := Aside0.mk hc0
  have HL := Aside0.mk hl
  have HRI := Aside0.mk hri
  clear hr0 hc0 hl hri
  refine callsIn_of_wp_marks Try.func10 rfl trivial ?_ rfl
  simp only [Try.ntmps10, List.size_toArray, List.length_cons, List.length_nil, Nat.reduceAdd, Nat.reduceSub, Array.replicate_succ, Array.replicate_zero, List.push_toArray, List.append_toArray, List.nil_append, List.cons_append]
  gi_wp2
  refine ⟨trivial, ?_⟩
  refine (callsIn_wide.2 (tree_rises.calls k A0 c0 l0 true w HR0.out HC0.out HRI.out)).mono ?_
  rintro e w1 ⟨rfl, ⟨m1, rfl⟩⟩
  have hb1 : Below w.heap.size w (w.drewN m1) := pw_below_drewN (Below.refl _ _) m1
  have HB1 := Aside0.mk hb1
  have hs1 : (w.drewN m1).heap.size = w.heap.size := rfl
  obtain ⟨w1, hw1⟩ : ∃ w1, w.drewN m1 = w1 := ⟨_, rfl⟩
  rw [hw1] at hb1 HB1 hs1 ⊢
  clear hw1
  gi_wp2
  refine ⟨trivial, ?_⟩
  refine (walk_in 5 _ _).mono ?_
  rintro e w' ⟨rfl, rfl⟩
  have bO := Boxed.new w1 24 (.slice none 0 0)
  have bN := Boxed.new (w1.alloc (.cells #[.slice none 0 0] 24)) 3 (.int .i64 (l0.length : Int))
  rw [World.size_alloc] at bN
  have hB0 : Below w.heap.size w ((w1.alloc (.cells #[.slice none 0 0] 24)).alloc (.cells #[.int .i64 (l0.length : Int)] 3)) := below_alloc (below_alloc hb1 _) _
  gi_wp2
  refine wpIn_rangeFunc_ownG rfl (by omega) (gf := 22) (lb := #[.pointer (some ⟨w.heap.size + 1, 0, none⟩)]) rfl trivial (enters_of Try.func22 (by kernel_rfl) rfl)
    (walk_stops 5 (w.heap.size + 1) (l0.length : Int) (by have := HL.out; omega) _ (by simp [hs1]) (by rw [← hs1]; exact bN.cell)) KT.trans (fun W l o o' _ h ho _ => KT.putObj W l o o' h ho) (Below.refl _ _) (fun _ => rfl)
    (fun pre W => (∃ v, Boxed W w.heap.size 24 v ∧ Kd.R (Kd.int .i64) 3 W w.heap.size (fun _ => True) v (midsw pre)) ∧ Below w.heap.size w W)
    (fun _ _ _ => False)
    (OwnFrom.and (fun pre W W' row ⟨v, hv, hr⟩ hg hrow => ⟨v, box_abides hv hg (fun r e => (hrow r e).2), row_abides hr hg (fun r e => (hrow r e).2)⟩) (ownFrom_below (Nat.le_refl _) (by simp [hs1]; omega)))
    (fun _ _ _ _ _ hs _ _ => hs)
    ⟨⟨_, by rw [← hs1]; exact bO.alloc _, Kd.R_nil _ _ _ _ _⟩, hB0⟩
    (fun x => { tmps := #[.slice A0 l0.length c0, undef, .slice none 0 0, .int .i64 0, .pointer (some ⟨w.heap.size, 0, none⟩), .int .i64 x.1, .int .i64 x.2, .slice A0 l0.length c0, .int .i64 (l0.length : Int), .bool false, .slice A0 l0.length c0, .bool true, .bool false, .slice A0 l0.length c0, .int .i64 (l0.length : Int), .func (.func 22) #[] #[.pointer (some ⟨w.heap.size + 1, 0, none⟩)], .int .i64 x.1, .int .i64 x.2, undef, undef, undef, undef, undef, undef, undef, undef, undef, undef, undef], defers := [] }) ?assign ?body ?done ?stop
  case assign =>
    intro l x W K hK
    gi_wp2
    exact hK
  case body =>
    rintro l pre x W ⟨⟨v, hv, hrow⟩, hB⟩ hlt
    have hc := hv.cell
    have hpl : (midsw pre).length ≤ pre.length := midsw_len pre
    by_cases hx : 1 < wrap64 (x.2 - x.1)
    · have z0 : decide (1 < wrap64 (x.2 - x.1)) = true := decide_eq_true hx
      gi_wp2
      refine startIn_ (n := 7) (S := fun w' => w'.cell? ⟨w.heap.size, 0, none⟩ = some v) (ds := [6]) #[false, false, false, false, false, false, false] (by kernel_rfl) rfl rfl (by kernel_rfl) ?lo hc (fun hHeld => ?_)
      case lo =>
        rintro ⟨a, w, h⟩
        exact h
      refine pure_ (i := 1) (N := some 23) (v := ?_) (a' := ?_) #[false, true, false, false, false, false, false] rfl rfl (by kernel_rfl) (fun _ _ _ h => h) (Or.inl ⟨by rfl, ?_⟩) ?_ ?_
      rotate_left
      · intro w'
        go_simp
        with_reducible rfl
      rotate_left
      · simp only [Act.put, List.setIfInBounds_toArray, List.set_cons_zero, List.set_cons_succ, i64_w, i32_w]
        rfl
      refine pure_ (i := 2) (N := some 24) (v := ?_) (a' := ?_) #[false, true, true, false, false, false, false] rfl rfl (by kernel_rfl) (fun _ _ _ h => h) (Or.inl ⟨by rfl, ?_⟩) ?_ ?_
      rotate_left
      · intro w'
        go_simp
        with_reducible rfl
      rotate_left
      · simp only [Act.put, List.setIfInBounds_toArray, List.set_cons_zero, List.set_cons_succ, i64_w, i32_w]
        rfl
      refine take_ (i := 0) (N := some 22) (v := ?_) (a' := ?_) #[true, true, true, false, false, false, false] rfl rfl (by kernel_rfl) (fun _ _ _ h => h) (Or.inl ⟨by rfl, ?_⟩) hHeld ?_ ?_
      rotate_left
      · intro w' s0
        go_simp
        with_reducible rfl
      rotate_left
      · simp only [Act.put, List.setIfInBounds_toArray, List.set_cons_zero, List.set_cons_succ, i64_w, i32_w]
        rfl
      refine one_ (i := 3) (N := some 25) #[true, true, true, true, false, false, false] rfl rfl (by kernel_rfl) (by decide) (fun K hK => ?_)
      refine goes_ Try.func20 (by kernel_rfl) rfl #[.int .i64 x.1, .int .i64 x.2] (by rfl) rfl rfl (by simp only [List.map_toArray, List.map_cons, List.map_nil]; rfl) ?_
      with_reducible refine (tree_middle.calls x.1 x.2 (midw x) W.drew rfl).mono ?_
      rintro e w3 ⟨rfl, ⟨md, rfl⟩⟩
      refine ⟨_, rfl, ?_⟩
      refine hK.out _ _ hc (fun hHeld => ?_)
      clear hK K
      refine norm_ (a' := ?_) ?_ ?_
      rotate_left
      · show Act.put _ (some 25) _ = _
        simp only [Act.put, List.setIfInBounds_toArray, List.set_cons_zero, List.set_cons_succ, i64_w, i32_w]
        rfl
      have hk3 : Kp (fun k => k = w.heap.size ∨ some k = v.ownBlock) W (W.drew.drewN md) := ((Kp.refl _ W).drew).drewN md
      have hv3 : Boxed (W.drew.drewN md) w.heap.size 24 v := hv
      have hr3 : Kd.R (Kd.int .i64) 3 (W.drew.drewN md) w.heap.size (fun _ => True) v (midsw pre) := Kd.R_drewN (Kd.R_drew hrow) md
      have hB3 : Below w.heap.size w (W.drew.drewN md) := pw_below_drewN (below_drew hB) md
      generalize W.drew.drewN md = W3 at hk3 hv3 hr3 hB3 hHeld ⊢
      refine one_ (i := 4) (N := some 26) #[true, true, true, true, true, false, false] rfl rfl (by kernel_rfl) (by decide) (fun K hK => ?_)
      refine value_ (w1 := ?_) (v := ?_) (by rfl) rfl ?_ ?_
      rotate_left 2
      · go_simp
        constructor
        · rfl
        · rfl
      refine hK.out _ _ (pw_cell_below (below_alloc (Below.refl _ _) _) hv3.cell) (fun hHeld => ?_)
      clear hK K
      refine norm_ (a' := ?_) ?_ ?_
      rotate_left
      · show Act.put _ (some 26) _ = _
        simp only [Act.put, List.setIfInBounds_toArray, List.set_cons_zero, List.set_cons_succ, i64_w, i32_w]
        rfl
      refine one_ (i := 5) (N := some 27) #[true, true, true, true, true, true, false] rfl rfl (by kernel_rfl) (by decide) (fun K hK => ?_)
      refine Kd.R_append_step (Kd.int .i64) (w0 := w) (W := W3) w.heap.size (by rfl) (.tmp 22) (.tmp 26) 24 3 (.int .i64 0) 8 rfl Try.underlying24 info3 rfl (by decide) (by decide) v (midsw pre) (midw x) [.int .i64 (midw x)] (fun _ => True) (fun _ => False) rfl rfl rfl (fun _ h => h.elim) (fun _ _ => trivial) hr3 hB3 hB3.size ?len ?_
      case len =>
        have h1 := parts_le l0.length 0 l0.length
        rw [Int.toNat_natCast] at hlt
        have := HL.out
        omega
      intro v1 w4 ho4 hb4 hg4 hat4
      have hne : some w.heap.size ≠ v.ownBlock := Kd.R_ne hr3 hv3 (by decide)
      have hv4 : Boxed w4 w.heap.size 24 v := hv3.kept hg4 hne
      have hk4 := hk3.grown hg4 (fun r e => .inr e.symm)
      refine hK.out _ _ hv4.cell (fun hHeld => ?_)
      clear hK K
      refine norm_ (a' := ?_) ?_ ?_
      rotate_left
      · show Act.put _ (some 27) _ = _
        simp only [Act.put, List.setIfInBounds_toArray, List.set_cons_zero, List.set_cons_succ, i64_w, i32_w]
        rfl
      obtain ⟨A4, c4, rfl⟩ := Kd.R_slice ho4
      have hc4 := hv4.cell
      have hf4 := hv4.frozen
      refine last_ (i := 6) (N := none) #[true, true, true, true, true, true, true] rfl rfl (by kernel_rfl) (by decide) (fun K hK => ?_)
      refine skip_ (w1 := ?_) (by rfl) rfl ?_ ?_
      rotate_left
      · go_simp
        rfl
      refine hK.out _ _ ?_
      clear hK K
      refine done_ (by kernel_rfl) ?_
      have hk5 := hk4.set w.heap.size 0 (.slice A4 (midsw pre ++ [midw x]).length c4) (.inl rfl)
      have hot := hk5.others (fun i hi => by
        rcases hi with rfl | hi
        · exact ⟨_, _, hv, by decide⟩
        · obtain ⟨_, _, _, q, hq, cells, hc⟩ := (Kd.R_bound hrow).1 i hi.symm
          have : q = 3 := by simpa [Kd.int, Kd.scalar] using hq
          subst this
          exact ⟨_, _, hc, by decide⟩)
      have hB5 := Kp.below hB hk5 (fun i hi => by
        rcases hi with rfl | hi
        · exact Nat.le_refl _
        · exact ((Kd.R_bound hrow).1 i hi.symm).2.1) hB.size
      have e5 : (midsw pre ++ [midw x]).length = (midsw pre).length + 1 := by simp
      have hr5 := Kd.R_set ho4 hv4 (by intro q hq; have : q = 3 := by simpa [Kd.int, Kd.scalar] using hq
                                       subst this; decide) 0 (.slice A4 (midsw pre ++ [midw x]).length c4)
      have hv5 := hv4.set (.slice A4 (midsw pre ++ [midw x]).length c4)
      rw [e5] at hot hB5 hr5 hv5
      rw [← midsw_yes pre x hx] at hr5
      exact ⟨hot.1.from _, hot.2, ⟨_, hv5, hr5⟩, hB5⟩
    · have z0 : decide (1 < wrap64 (x.2 - x.1)) = false := decide_eq_false hx
      have HX := Aside0.mk hx
      clear hx
      gi_wp2
      exact ⟨KeepsFrom.refl _ _, KT.refl _, ⟨v, hv, by rw [midsw_no pre x (by have := HX.out; omega)]; exact hrow⟩, hB⟩
  case done =>
    rintro D ys W hD rfl ⟨⟨v, hv, hrow⟩, hB⟩ hK
    have hc := hv.cell
    gi_wp2
    refine ⟨by simp, .inl ⟨_, _, rfl, run_takeDeferred hK, ?_⟩⟩
    have hgr := grownBy_putObj' W D (.deferred none)
    have hpi := parts_in l0.length 0 l0.length (by have := HL.out; omega)
    rw [Int.toNat_natCast, midsw_is _ (fun x hx => by have := hpi x hx; have := HL.out; omega)] at hrow
    refine ⟨_, results_tmp2 rfl _ _ _, v, rfl, row_abides hrow hgr (fun r e => by cases e; exact ⟨_, hK, rfl⟩), hB.trans (belowK_b (w := w) (Nat.le_refl _) W D _ _ (by simp [hs1] at hD; omega) hK rfl rfl)⟩
  case stop =>
    rintro D c pre W _ _ h _
    exact h.elim

set_option maxRecDepth 100000 in
theorem build_long (A0 : Option Addr) (c0 : Nat) (l0 : List Int) (w : World) (hl : 4096 < l0.length) :
    Calls Try.prog 10 #[.slice A0 l0.length c0] w fun e W' => e = .returned (.tuple #[.slice none 0 0, .int .i64 4]) ∧ Below w.heap.size w W' := by
  refine (callsIn_wide (n := 6)).1 ?_
  have d0 : decide ((4096 : Int) < (l0.length : Int)) = true := decide_eq_true (by omega)
  have d1 : decide (4096 < l0.length) = true := decide_eq_true hl
  refine callsIn_of_wp_marks Try.func10 rfl trivial ?_ rfl
  simp only [Try.ntmps10, List.size_toArray, List.length_cons, List.length_nil, Nat.reduceAdd, Nat.reduceSub, Array.replicate_succ, Array.replicate_zero, List.push_toArray, List.append_toArray, List.nil_append, List.cons_append]
  gi_wp2
  exact ⟨_, results_tmp2 rfl _ _ _, rfl, Below.refl _ _⟩
set_option maxRecDepth 100000 in
theorem build_odd (A0 : Option Addr) (c0 : Nat) (l0 : List Int) (w : World) (hr0 : Kd.C (Kd.int .u32) w A0 l0.length l0) (hc0 : l0.length ≤ c0) (hl : l0.length ≤ 4096) (k : Nat) (hri : tree_rises.f k l0 = some false) :
    Calls Try.prog 10 #[.slice A0 l0.length c0] w fun e W' => e = .returned (.tuple #[.slice none 0 0, .int .i64 1]) ∧ Below w.heap.size w W' := by
  refine (callsIn_wide (n := 6)).1 ?_
  have d0 : decide ((4096 : Int) < (l0.length : Int)) = false := decide_eq_false (by omega)
  have d1 : decide (4096 < l0.length) = false := decide_eq_false (by omega)
  have HR0 := Aside0.mk hr0
  have HC0 := Aside0.mk hc0
  have HRI := Aside0.mk hri
  clear hr0 hc0 hl hri
  refine callsIn_of_wp_marks Try.func10 rfl trivial ?_ rfl
  simp only [Try.ntmps10, List.size_toArray, List.length_cons, List.length_nil, Nat.reduceAdd, Nat.reduceSub, Array.replicate_succ, Array.replicate_zero, List.push_toArray, List.append_toArray, List.nil_append, List.cons_append]
  gi_wp2
  refine ⟨trivial, ?_⟩
  refine (callsIn_wide.2 (tree_rises.calls k A0 c0 l0 false w HR0.out HC0.out HRI.out)).mono ?_
  rintro e w1 ⟨rfl, ⟨m1, rfl⟩⟩
  gi_wp2
  exact ⟨_, results_tmp2 rfl _ _ _, rfl, pw_below_drewN (Below.refl _ _) m1⟩
end Go.Proofs.Ytioccjeiheejjaa.Tree
