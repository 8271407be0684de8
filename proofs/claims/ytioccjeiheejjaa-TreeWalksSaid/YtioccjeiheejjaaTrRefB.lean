/- The document's Build: walked. -/
import Derived.Test.YtioccjeiheejjaaTrParts
import Derived.WalkMore
namespace Go.Proofs.Ytioccjeiheejjaa.Tree
open Go.RowKit Go.Proofs.YtioccjeiheejjaaW.PrintWords Go.Proofs.YtioccjeiheejjaaW.PrintLast Go.Proofs.YtioccjeiheejjaaW.PrintMore Go.Proofs.Ytioccjeiheejjaa.Fns
set_option linter.unusedVariables false
set_option linter.unusedSimpArgs false

theorem at_pr {w : World} {A : Option Addr} {n : Nat} {xs : List (Int × Int)} (h : Kd.C pr w A n xs) (i : Nat) (h1 : i < n) :
    ∃ ad, A = some ad ∧ w.cell? (ad.add (i * 2)) = some (.int .i64 (xs.getD i (0, 0)).1) ∧ w.cell? (ad.add (i * 2 + 1)) = some (.int .i64 (xs.getD i (0, 0)).2) := by
  obtain ⟨ad, c, e, _, hK, hc0⟩ := Kd.C_get h (0, 0) (i : Int) (by omega) (by omega)
  rw [Int.toNat_natCast] at hK hc0
  have hK' : c = [Value.int .i64 (xs.getD i (0, 0)).1, Value.int .i64 (xs.getD i (0, 0)).2] := hK
  subst hK'
  exact ⟨ad, e, hc0 0 _ rfl, hc0 1 _ rfl⟩
theorem mids_take (ps : List (Int × Int)) (k : Nat) (h : k < ps.length) : mids (ps.take (k + 1)) = if 1 < (ps.getD k (0, 0)).2 - (ps.getD k (0, 0)).1 then mids (ps.take k) ++ [(ps.getD k (0, 0)).1 + ((ps.getD k (0, 0)).2 - (ps.getD k (0, 0)).1) / 2] else mids (ps.take k) := by
  have e : ps.getD k (0, 0) = ps[k] := by simp [List.getD_eq_getElem?_getD, h]
  rw [List.take_succ_eq_append_getElem h, e]
  split
  · rename_i h1
    exact mids_yes _ _ h1
  · rename_i h1
    exact mids_no _ _ h1

theorem pw_cell_from {W w7 : World} {B : Nat} {a : Addr} {v : Value} (hc : W.cell? a = some v) (hg : Below B W w7) (ha : a.block < B) : w7.cell? a = some v := (hg.cell ha).trans hc

set_option maxHeartbeats 8000000 in
set_option maxRecDepth 100000 in
theorem refbuild_main (A0 : Option Addr) (c0 : Nat) (l0 : List Int) (w : World) (hr0 : Kd.C (Kd.int .u32) w A0 l0.length l0) (hc0 : l0.length ≤ c0) (hl : l0.length ≤ 4096) (hri : risesB l0 = true) :
    Calls Try.prog 11 #[.slice A0 l0.length c0] w fun e w' => ∃ v, e = .returned (.tuple #[v, .int .i64 0]) ∧ Kd.R (Kd.int .i64) 3 w' w.heap.size (fun _ => True) v (mids (parts l0.length 0 l0.length)) ∧ Below w.heap.size w w' := by
  have hri' := ref_rises_is l0 (by omega) 6000 (by omega)
  rw [hri] at hri'
  have hpc : ∀ W : World, Calls Try.prog 13 #[.int .i64 0, .int .i64 (l0.length : Int)] W fun e w' => ∃ v, e = .returned v ∧ Kd.R pr 35 w' W.heap.size (fun _ => True) v (parts l0.length 0 l0.length) ∧ Below W.heap.size W w' := by
    intro W
    by_cases h0 : l0.length = 0
    · have := parts_none 0 (l0.length : Int) (by omega) W
      refine this.mono ?_
      rintro e w' ⟨rfl, hb⟩
      refine ⟨_, rfl, ?_, hb⟩
      rw [h0]
      exact Kd.R_nil _ _ _ _ _
    · exact parts_calls l0.length 0 l0.length (by omega) (by omega) (by omega) W
  have HR0 := Aside0.mk hr0
  have HC0 := Aside0.mk hc0
  have HRI := Aside0.mk hri'
  have HPC := Aside0.mk hpc
  have HPI := Aside0.mk (parts_in l0.length 0 l0.length (by omega))
  have HPL := Aside0.mk (show (parts l0.length 0 l0.length).length ≤ 8192 by have := parts_le l0.length 0 l0.length; omega)
  have d0 : decide ((4096 : Int) < (l0.length : Int)) = false := decide_eq_false (by omega)
  have d1 : decide (4096 < l0.length) = false := decide_eq_false (by omega)
  have HL := Aside0.mk hl
  clear hr0 hc0 hri hri' hpc hl
  obtain ⟨P, hPe⟩ : ∃ P, parts l0.length 0 l0.length = P := ⟨_, rfl⟩
  rw [hPe] at HPC HPI HPL ⊢
  clear hPe
  go_enter Try.func11, Try.ntmps11
  go_wp2_with fail
  refine (fairleadref13_Rises.calls 6000 A0 c0 l0 true w HR0.out HC0.out HRI.out).mono ?_
  rintro e w1 ⟨rfl, ⟨m1, rfl⟩⟩
  have HB1 := Aside0.mk (pw_below_drewN (Below.refl w.heap.size w) m1)
  generalize w.drewN m1 = w1 at HB1 ⊢
  go_wp2_with fail
  refine (HPC.out w1).mono ?_
  rintro e w2 ⟨v2, rfl, ho2, hb2⟩
  obtain ⟨A2, c2, rfl⟩ := Kd.R_slice ho2
  have HP := Aside0.mk (Kd.R_reads' ho2).2.2
  have HB2 := Aside0.mk (below_then HB1.out HB1.out.size hb2)
  clear ho2 hb2 HPC
  go_wp2_with fail
  go_loopw [4, 6] (fun v4 v6 wr => ∃ k : Nat, k ≤ P.length ∧ v6 = .int .i64 (k : Int) ∧ Aside0 (Kd.R (Kd.int .i64) 3 wr w2.heap.size (fun _ => True) v4 (mids (P.take k))) ∧ Aside0 (Below w2.heap.size w2 wr)) (fun _ v6 _ => P.length - (intOf v6).toNat)
  case atStart => exact ⟨0, by omega, by first | rfl | simp, ⟨Kd.R_nil _ _ _ _ _⟩, ⟨Below.refl _ _⟩⟩
  case round =>
    obtain ⟨k, hk, rfl, HO, HBr⟩ := hrel
    obtain ⟨A4, c4, rfl⟩ := Kd.R_slice HO.out
    by_cases hkl : k < P.length
    · have e0 : decide ((k : Int) < (P.length : Int)) = true := decide_eq_true (by omega)
      have e1 : decide (k < P.length) = true := decide_eq_true hkl
      have hmt := mids_take P k hkl
      obtain ⟨x, hx⟩ : ∃ x, P.getD k (0, 0) = x := ⟨_, rfl⟩
      have hxi := HPI.out x (by rw [← hx]; simp [List.getD_eq_getElem?_getD, hkl])
      obtain ⟨ad, f0, y0, y1⟩ := at_pr (Kd.C_below HP.out HBr.out) k hkl
      cases f0
      obtain ⟨ad', f0', o0, o1⟩ := at_pr HP.out k hkl
      cases f0'
      rw [hx] at y0 y1 hmt o0 o1
      have HMT := Aside0.mk hmt
      have hlb := HL.out
      have p1 : (0 ≤ (k : Int)) = True := eq_true (by omega)
      have q1 : ((k : Int) < (P.length : Int)) = True := eq_true (by omega)
      have q2 : (k < P.length) = True := eq_true hkl
      clear hmt hx
      obtain ⟨x1, x2⟩ := x
      simp only at y0 y1 hxi o0 o1
      have o1' : w2.cell? ⟨(ad.add (k * 2)).block, (ad.add (k * 2)).off + 1, none⟩ = some (.int .i64 x2) := by rw [← add_add] at o1; exact o1
      have OO := Aside0.mk (And.intro o0 o1')
      clear o0 o1 o1'
      have y1' : wr.cell? ⟨(ad.add (k * 2)).block, (ad.add (k * 2)).off + 1, none⟩ = some (.int .i64 x2) := by rw [← add_add] at y1; exact y1
      have HKW := Aside0.mk (show wrap64 ((k : Int) + 1) = ((k + 1 : Nat) : Int) by rw [IntWalk.wrap64_in _ (by have := HPL.out; omega)]; rfl)
      have hblk : (ad.add (k * 2)).block < w2.heap.size := by
        obtain ⟨ad', f0', y0', _⟩ := at_pr HP.out k hkl
        cases f0'
        exact World.block_lt_of_cell? w2 _ y0'
      by_cases hd : 1 < x2 - x1
      · have e2 : decide (1 < x2 - x1) = true := decide_eq_true hd
        have HMT2 := Aside0.mk (HMT.out.trans (if_pos hd))
        have HV := Aside0.mk (show wrap64 (x1 + wrap64 ((wrap64 (x2 - x1)).tdiv 2)) = x1 + (x2 - x1) / 2 by
          have e1 : wrap64 (x2 - x1) = x2 - x1 := IntWalk.wrap64_in _ (by omega)
          have e2 : (x2 - x1).tdiv 2 = (x2 - x1) / 2 := Int.tdiv_eq_ediv_of_nonneg (by omega)
          have e3 : wrap64 ((x2 - x1) / 2) = (x2 - x1) / 2 := IntWalk.wrap64_in _ (by omega)
          rw [e1, e2, e3]
          exact IntWalk.wrap64_in _ (by omega))
        clear hd
        go_upto_region 10 with (fail)
        go_quiet (fail)
        go_upto_region 11 with (fail)
        have HO6 := Aside0.mk (Kd.R_drew (Kd.R_drewN HO.out nq))
        have HB6 := Aside0.mk (below_drew (pw_below_drewN HBr.out nq))
        have z0 : (wr.drewN nq).drew.cell? (ad.add (k * 2)) = some (.int .i64 x1) := y0
        have z1 : (wr.drewN nq).drew.cell? ⟨(ad.add (k * 2)).block, (ad.add (k * 2)).off + 1, none⟩ = some (.int .i64 x2) := y1'
        clear y0 y1 y1'
        generalize wr.drewN nq = W5 at HO6 HB6 z0 z1 ⊢
        refine start_ (n := 22) (S := fun w' => w'.cell? (ad.add (k * 2)) = some (.int .i64 x1) ∧ w'.cell? ⟨(ad.add (k * 2)).block, (ad.add (k * 2)).off + 1, none⟩ = some (.int .i64 x2)) (ds := []) #[false, false, false, false, false, false, false, false, false, false, false, false, false, false, false, false, false, false, false, false, false, false] (by kernel_rfl) rfl rfl ⟨z0, z1⟩ (fun hHeld => ?_)
        generalize W5.drew = W6 at hHeld z0 z1 HO6 HB6 ⊢
        refine pure_ (i := 0) (N := some 34) (v := ?_) (a' := ?_) #[true, false, false, false, false, false, false, false, false, false, false, false, false, false, false, false, false, false, false, false, false, false] rfl rfl (by kernel_rfl) (fun _ _ _ h => h) (Or.inl ⟨by rfl, ?_⟩) ?_ ?_
        rotate_left
        · intro w'
          go_simp
          with_reducible rfl
        rotate_left
        · simp only [Act.put, List.setIfInBounds_toArray, List.set_cons_zero, List.set_cons_succ, i64_w, i32_w]
          rfl
        refine pure_ (i := 1) (N := some 35) (v := ?_) (a' := ?_) #[true, true, false, false, false, false, false, false, false, false, false, false, false, false, false, false, false, false, false, false, false, false] rfl rfl (by kernel_rfl) (fun _ _ _ h => h) (Or.inl ⟨by rfl, ?_⟩) ?_ ?_
        rotate_left
        · intro w'
          go_simp
          with_reducible rfl
        rotate_left
        · simp only [Act.put, List.setIfInBounds_toArray, List.set_cons_zero, List.set_cons_succ, i64_w, i32_w]
          rfl
        refine pure_ (i := 2) (N := some 36) (v := ?_) (a' := ?_) #[true, true, true, false, false, false, false, false, false, false, false, false, false, false, false, false, false, false, false, false, false, false] rfl rfl (by kernel_rfl) (fun _ _ _ h => h) (Or.inl ⟨by rfl, ?_⟩) ?_ ?_
        rotate_left
        · intro w'
          go_simp
          with_reducible rfl
        rotate_left
        · simp only [Act.put, List.setIfInBounds_toArray, List.set_cons_zero, List.set_cons_succ, i64_w, i32_w]
          rfl
        refine pure_ (i := 3) (N := some 37) (v := ?_) (a' := ?_) #[true, true, true, true, false, false, false, false, false, false, false, false, false, false, false, false, false, false, false, false, false, false] rfl rfl (by kernel_rfl) (fun _ _ _ h => h) (Or.inl ⟨by rfl, ?_⟩) ?_ ?_
        rotate_left
        · intro w'
          go_simp
          with_reducible rfl
        rotate_left
        · simp only [Act.put, List.setIfInBounds_toArray, List.set_cons_zero, List.set_cons_succ, i64_w, i32_w]
          rfl
        refine pure_ (i := 4) (N := some 38) (v := ?_) (a' := ?_) #[true, true, true, true, true, false, false, false, false, false, false, false, false, false, false, false, false, false, false, false, false, false] rfl rfl (by kernel_rfl) (fun _ _ _ h => h) (Or.inl ⟨by rfl, ?_⟩) ?_ ?_
        rotate_left
        · intro w'
          go_simp
          with_reducible rfl
        rotate_left
        · simp only [Act.put, List.setIfInBounds_toArray, List.set_cons_zero, List.set_cons_succ, i64_w, i32_w]
          rfl
        refine pure_ (i := 6) (N := some 40) (v := ?_) (a' := ?_) #[true, true, true, true, true, false, true, false, false, false, false, false, false, false, false, false, false, false, false, false, false, false] rfl rfl (by kernel_rfl) (fun _ _ _ h => h) (Or.inl ⟨by rfl, ?_⟩) ?_ ?_
        rotate_left
        · intro w'
          go_simp
          with_reducible rfl
        rotate_left
        · simp only [Act.put, List.setIfInBounds_toArray, List.set_cons_zero, List.set_cons_succ, i64_w, i32_w]
          rfl
        refine pure_ (i := 7) (N := some 41) (v := ?_) (a' := ?_) #[true, true, true, true, true, false, true, true, false, false, false, false, false, false, false, false, false, false, false, false, false, false] rfl rfl (by kernel_rfl) (fun _ _ _ h => h) (Or.inl ⟨by rfl, ?_⟩) ?_ ?_
        rotate_left
        · intro w'
          go_simp
          with_reducible rfl
        rotate_left
        · simp only [Act.put, List.setIfInBounds_toArray, List.set_cons_zero, List.set_cons_succ, i64_w, i32_w]
          rfl
        refine pure_ (i := 8) (N := some 42) (v := ?_) (a' := ?_) #[true, true, true, true, true, false, true, true, true, false, false, false, false, false, false, false, false, false, false, false, false, false] rfl rfl (by kernel_rfl) (fun _ _ _ h => h) (Or.inl ⟨by rfl, ?_⟩) ?_ ?_
        rotate_left
        · intro w'
          go_simp
          with_reducible rfl
        rotate_left
        · simp only [Act.put, List.setIfInBounds_toArray, List.set_cons_zero, List.set_cons_succ, i64_w, i32_w]
          rfl
        refine pure_ (i := 9) (N := some 43) (v := ?_) (a' := ?_) #[true, true, true, true, true, false, true, true, true, true, false, false, false, false, false, false, false, false, false, false, false, false] rfl rfl (by kernel_rfl) (fun _ _ _ h => h) (Or.inl ⟨by rfl, ?_⟩) ?_ ?_
        rotate_left
        · intro w'
          go_simp
          with_reducible rfl
        rotate_left
        · simp only [Act.put, List.setIfInBounds_toArray, List.set_cons_zero, List.set_cons_succ, i64_w, i32_w]
          rfl
        refine pure_ (i := 11) (N := some 45) (v := ?_) (a' := ?_) #[true, true, true, true, true, false, true, true, true, true, false, true, false, false, false, false, false, false, false, false, false, false] rfl rfl (by kernel_rfl) (fun _ _ _ h => h) (Or.inl ⟨by rfl, ?_⟩) ?_ ?_
        rotate_left
        · intro w'
          go_simp
          with_reducible rfl
        rotate_left
        · simp only [Act.put, List.setIfInBounds_toArray, List.set_cons_zero, List.set_cons_succ, i64_w, i32_w]
          rfl
        refine pure_ (i := 12) (N := some 46) (v := ?_) (a' := ?_) #[true, true, true, true, true, false, true, true, true, true, false, true, true, false, false, false, false, false, false, false, false, false] rfl rfl (by kernel_rfl) (fun _ _ _ h => h) (Or.inl ⟨by rfl, ?_⟩) ?_ ?_
        rotate_left
        · intro w'
          go_simp
          with_reducible rfl
        rotate_left
        · simp only [Act.put, List.setIfInBounds_toArray, List.set_cons_zero, List.set_cons_succ, i64_w, i32_w]
          rfl
        refine pure_ (i := 13) (N := some 47) (v := ?_) (a' := ?_) #[true, true, true, true, true, false, true, true, true, true, false, true, true, true, false, false, false, false, false, false, false, false] rfl rfl (by kernel_rfl) (fun _ _ _ h => h) (Or.inl ⟨by rfl, ?_⟩) ?_ ?_
        rotate_left
        · intro w'
          go_simp
          with_reducible rfl
        rotate_left
        · simp only [Act.put, List.setIfInBounds_toArray, List.set_cons_zero, List.set_cons_succ, i64_w, i32_w]
          rfl
        refine pure_ (i := 14) (N := some 48) (v := ?_) (a' := ?_) #[true, true, true, true, true, false, true, true, true, true, false, true, true, true, true, false, false, false, false, false, false, false] rfl rfl (by kernel_rfl) (fun _ _ _ h => h) (Or.inl ⟨by rfl, ?_⟩) ?_ ?_
        rotate_left
        · intro w'
          go_simp
          with_reducible rfl
        rotate_left
        · simp only [Act.put, List.setIfInBounds_toArray, List.set_cons_zero, List.set_cons_succ, i64_w, i32_w]
          rfl
        refine take_ (i := 5) (N := some 39) (v := ?_) (a' := ?_) #[true, true, true, true, true, true, true, true, true, true, false, true, true, true, true, false, false, false, false, false, false, false] rfl rfl (by kernel_rfl) (fun _ _ _ h => h) (Or.inl ⟨by rfl, ?_⟩) hHeld ?_ ?_
        rotate_left
        · rintro w' ⟨s0, s1⟩
          go_simp
          with_reducible rfl
        rotate_left
        · simp only [Act.put, List.setIfInBounds_toArray, List.set_cons_zero, List.set_cons_succ, i64_w, i32_w]
          rfl
        refine take_ (i := 10) (N := some 44) (v := ?_) (a' := ?_) #[true, true, true, true, true, true, true, true, true, true, true, true, true, true, true, false, false, false, false, false, false, false] rfl rfl (by kernel_rfl) (fun _ _ _ h => h) (Or.inl ⟨by rfl, ?_⟩) hHeld ?_ ?_
        rotate_left
        · rintro w' ⟨s0, s1⟩
          go_simp
          with_reducible rfl
        rotate_left
        · simp only [Act.put, List.setIfInBounds_toArray, List.set_cons_zero, List.set_cons_succ, i64_w, i32_w]
          rfl
        refine take_ (i := 15) (N := some 49) (v := ?_) (a' := ?_) #[true, true, true, true, true, true, true, true, true, true, true, true, true, true, true, true, false, false, false, false, false, false] rfl rfl (by kernel_rfl) (fun _ _ _ h => h) (Or.inl ⟨by rfl, ?_⟩) hHeld ?_ ?_
        rotate_left
        · rintro w' ⟨s0, s1⟩
          go_simp
          with_reducible rfl
        rotate_left
        · simp only [Act.put, List.setIfInBounds_toArray, List.set_cons_zero, List.set_cons_succ, i64_w, i32_w]
          rfl
        refine pure_ (i := 16) (N := some 50) (v := ?_) (a' := ?_) #[true, true, true, true, true, true, true, true, true, true, true, true, true, true, true, true, true, false, false, false, false, false] rfl rfl (by kernel_rfl) (fun _ _ _ h => h) (Or.inl ⟨by rfl, ?_⟩) ?_ ?_
        rotate_left
        · intro w'
          go_simp
          with_reducible rfl
        rotate_left
        · simp only [Act.put, List.setIfInBounds_toArray, List.set_cons_zero, List.set_cons_succ, i64_w, i32_w]
          rfl
        refine pure_ (i := 17) (N := some 51) (v := ?_) (a' := ?_) #[true, true, true, true, true, true, true, true, true, true, true, true, true, true, true, true, true, true, false, false, false, false] rfl rfl (by kernel_rfl) (fun _ _ _ h => h) (Or.inl ⟨by rfl, ?_⟩) ?_ ?_
        rotate_left
        · intro w'
          go_simp
          with_reducible rfl
        rotate_left
        · simp only [Act.put, List.setIfInBounds_toArray, List.set_cons_zero, List.set_cons_succ, i64_w, i32_w]
          rfl
        refine pure_ (i := 18) (N := some 52) (v := ?_) (a' := ?_) #[true, true, true, true, true, true, true, true, true, true, true, true, true, true, true, true, true, true, true, false, false, false] rfl rfl (by kernel_rfl) (fun _ _ _ h => h) (Or.inl ⟨by rfl, ?_⟩) ?_ ?_
        rotate_left
        · intro w'
          go_simp
          with_reducible rfl
        rotate_left
        · simp only [Act.put, List.setIfInBounds_toArray, List.set_cons_zero, List.set_cons_succ, i64_w, i32_w]
          rfl
        refine one_ (i := 19) (N := some 53) #[true, true, true, true, true, true, true, true, true, true, true, true, true, true, true, true, true, true, true, true, false, false] rfl rfl (by kernel_rfl) (by decide) (fun K hK => ?_)
        refine value_ (w1 := ?_) (v := ?_) (by rfl) rfl ?_ ?_
        rotate_left 2
        · go_simp
          constructor
          · rfl
          · rfl
        refine hK.out _ _ ⟨pw_cell_below (below_alloc (Below.refl _ _) _) z0, pw_cell_below (below_alloc (Below.refl _ _) _) z1⟩ (fun hHeld => ?_)
        clear hK K
        refine norm_ (a' := ?_) ?_ ?_
        rotate_left
        · show Act.put _ (some 53) _ = _
          simp only [Act.put, List.setIfInBounds_toArray, List.set_cons_zero, List.set_cons_succ, i64_w, i32_w]
          rfl
        refine one_ (i := 20) (N := some 54) #[true, true, true, true, true, true, true, true, true, true, true, true, true, true, true, true, true, true, true, true, true, false] rfl rfl (by kernel_rfl) (by decide) (fun K hK => ?_)
        rw [HV.out]
        refine Kd.R_append_step (Kd.int .i64) (w0 := w2) (W := W6) w2.heap.size (by rfl) (.tmp 34) (.tmp 53) 24 3 (.int .i64 0) 8 rfl Try.underlying24 info3 rfl (by decide) (by decide) (.slice A4 (mids (P.take k)).length c4) (mids (P.take k)) (x1 + (x2 - x1) / 2) [.int .i64 (x1 + (x2 - x1) / 2)] (fun _ => True) (fun _ => False) rfl rfl rfl (fun _ h => h.elim) (fun _ _ => trivial) HO6.out HB6.out HB6.out.size ?len ?_
        case len =>
          have h1 := mids_len (P.take k)
          rw [List.length_take] at h1
          have := HPL.out
          omega
        intro v7 w7 ho7 hb7 hg7 hat7
        have HO7 := Aside0.mk ho7
        have HB7 := Aside0.mk hb7
        clear ho7 hg7 hat7
        refine hK.out _ _ ⟨pw_cell_from OO.out.1 hb7 hblk, pw_cell_from OO.out.2 hb7 hblk⟩ (fun hHeld => ?_)
        clear hK K
        refine norm_ (a' := ?_) ?_ ?_
        rotate_left
        · show Act.put _ (some 54) _ = _
          simp only [Act.put, List.setIfInBounds_toArray, List.set_cons_zero, List.set_cons_succ, i64_w, i32_w]
          rfl
        refine pure_ (i := 21) (N := some 4) (v := ?_) (a' := ?_) #[true, true, true, true, true, true, true, true, true, true, true, true, true, true, true, true, true, true, true, true, true, true] rfl rfl (by kernel_rfl) (fun _ _ _ h => h) (Or.inl ⟨by rfl, ?_⟩) ?_ ?_
        rotate_left
        · intro w'
          go_simp
          with_reducible rfl
        rotate_left
        · simp only [Act.put, List.setIfInBounds_toArray, List.set_cons_zero, List.set_cons_succ, i64_w, i32_w]
          rfl
        refine done_ (by kernel_rfl) ?_
        go_wp2_with fail
        try rw [HKW.out]
        refine ⟨⟨k + 1, by omega, rfl, ⟨by rw [HMT2.out]; exact HO7.out⟩, HB7⟩, ?_⟩
        simp only [intOf]
        omega
      · have e2 : decide (1 < x2 - x1) = false := decide_eq_false hd
        have HMT2 := Aside0.mk (HMT.out.trans (if_neg hd))
        clear hd
        go_upto_region 10 with (fail)
        go_quiet (fail)
        go_wp2_with fail
        try rw [HKW.out]
        refine ⟨⟨k + 1, by omega, rfl, ⟨by rw [HMT2.out]; exact Kd.R_drewN HO.out nq⟩, ⟨pw_below_drewN HBr.out nq⟩⟩, ?_⟩
        simp only [intOf]
        omega
    · have e0 : decide ((k : Int) < (P.length : Int)) = false := decide_eq_false (by omega)
      have e1 : decide (k < P.length) = false := decide_eq_false hkl
      obtain rfl : k = P.length := by omega
      have HOe : Kd.R (Kd.int .i64) 3 wr w2.heap.size (fun _ => True) (.slice A4 (mids (List.take P.length P)).length c4) (mids P) := by
        have := HO.out
        rw [List.take_length] at this ⊢
        exact this
      have HOE := Aside0.mk HOe
      clear HOe
      go_wp2_with fail
      go_ret2
      exact ⟨_, rfl, Kd.R_lower HOE.out HB2.out.size, below_then HB2.out HB2.out.size HBr.out⟩
end Go.Proofs.Ytioccjeiheejjaa.Tree
