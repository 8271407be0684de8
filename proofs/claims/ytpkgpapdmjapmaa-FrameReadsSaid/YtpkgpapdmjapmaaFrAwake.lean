/- Lost, Left; awake. -/
import Derived.Test.YtpkgpapdmjapmaaFrNext
import Derived.Lib.SlBytesConst
namespace Go.Proofs.Ytpkgpapdmjapmaa.Fns
open Go.RowKit Go.Proofs.YtpkgpapdmjapmaaW.PrintWords Go.Proofs.YtpkgpapdmjapmaaW.PrintLast Go.Proofs.YtpkgpapdmjapmaaW.PrintMore Go.Proofs.Ytpkgpapdmjapmaa.SumMath Go.Proofs.Ytpkgpapdmjapmaa.Pure
set_option linter.unusedVariables false
set_option linter.unusedSimpArgs false

set_option maxRecDepth 100000 in
theorem lost_calls (ok : Nat → Prop) (base g : Nat) (B : List Int) (lost : Int) (w : World) (hI : Rd ok base w g B lost) :
    Calls Try.prog 17 #[.pointer (some ⟨g, 0, none⟩)] w fun e w' => e = .returned (.int .i64 lost) ∧ w' = w := by
  obtain ⟨A, c, hblk, _⟩ := hI.open_
  have h1 : w.cell? ⟨g, 1, none⟩ = some (.int .i64 lost) := (blk_cell hblk 1).trans rfl
  clear hI hblk
  go_enter Try.func17, Try.ntmps17
  go_wp2
  go_ret
  exact ⟨rfl, rfl⟩
set_option maxRecDepth 100000 in
theorem left_calls (ok : Nat → Prop) (base g : Nat) (B : List Int) (lost : Int) (w : World) (hI : Rd ok base w g B lost) :
    Calls Try.prog 16 #[.pointer (some ⟨g, 0, none⟩)] w fun e w' => e = .returned (.int .i64 (B.length : Int)) ∧ w' = w := by
  obtain ⟨A, c, hblk, _⟩ := hI.open_
  have h1 : w.cell? ⟨g, 0, none⟩ = some (.slice A B.length c) := (blk_cell hblk 0).trans rfl
  clear hI hblk
  go_enter Try.func16, Try.ntmps16
  go_wp2
  go_ret
  exact ⟨rfl, rfl⟩
/-- The row of a constant string's bytes, as it lies behind its conversion: it reads as these bytes. -/
theorem const_reads (w : World) (e : TypeId) (l : List Int) (c d : Nat) (hm : l.length ≤ 9223372036854775807) :
    Kd.C (Kd.int .u8) (w.alloc (.cells (l.map (Value.int .u8)).toArray e (c, d))) (some ⟨w.heap.size, 0, none⟩) l.length l := by
  refine Kd.C_of_reads (d := (0 : Int)) (h1 := fun _ => rfl) ⟨rfl, hm, fun _ => ⟨_, rfl, fun j hj => ?_⟩⟩
  rw [add_plain, World.cell?_alloc_mark]
  simp [List.getD_eq_getElem?_getD, hj]
theorem Rd.new (w : World) (base : Nat) (hb : base ≤ w.heap.size) : Rd (fun _ => False) base (w.alloc (.cells #[.slice none 0 0, .int .i64 0] 32 (0, 0))) w.heap.size [] 0 :=
  ⟨hb, _, blk_new w _, Kd.Q_nil _ _ _ _ _⟩
theorem awake_nx : nx ([120, 120, 120, 120, 120, 120, 120] ++ mk [97]) = (some [97], [], 7) := by kernel_rfl

theorem Rd.row_past {ok : Nat → Prop} {base base2 g : Nat} {w w' : World} {B xs : List Int} {lost : Int} {v : Value} (hI : Rd ok base w g B lost) (hR : Kd.R (Kd.int .u8) 5 w base2 (fun _ => True) v xs) (hk : Kp (fun k => k = g) w w') : Kd.R (Kd.int .u8) 5 w' base2 (fun _ => True) v xs := by
  obtain ⟨A, c, hblk, _⟩ := hI.open_
  exact Kd.R_mono (Kd.R_step (Kd.R_types hR hblk q_types5) (fun k hk2 hlt => hk.block k hlt hk2.2)) (fun _ _ => trivial)

set_option maxHeartbeats 8000000 in
set_option maxRecDepth 100000 in
theorem awake_calls (w : World) : Calls Try.prog 9 #[] w fun e w' => e = .returned (.bool true) ∧ Below w.heap.size w w' := by
  have HC1 := Aside0.mk (const_reads w 5 [97] 1 2 (by simp))
  have kc := fun (w : World) (C : Array Value) (n c : Nat) => Lib.run_convert_bytes_const (P := Try.prog) w 22 5 C n c Try.underlying22 Try.underlying5
  have hF : frame_Frame.f 600 [97] = some (mk [97], 0) := frame_is [97] (by intro x hx; simp at hx; omega) 600 (by omega)
  have HF := Aside0.mk hF
  clear hF
  go_enter Try.func9, Try.ntmps9
  go_wp2_with fail
  refine (frame_Frame.calls 600 _ _ [97] _ _ _ HC1.out (by simp) HF.out).mono ?_
  rintro e w1 ⟨v1, rfl, ho1, hb1⟩
  obtain ⟨A1, c1, rfl⟩ := Kd.R_slice ho1
  have HO1 := Aside0.mk ho1
  have hb1' : Below w.heap.size w w1 := below_then (below_alloc (Below.refl _ _) _) (by simp) hb1
  have HB1 := Aside0.mk hb1'
  have hl9 : (((mk [97]).length : Int) == 9) = true := rfl
  have hl9' : decide ((mk [97]).length = 9) = true := rfl
  have hl9'' : ((mk [97]).length == 9) = true := rfl
  have hs1 : ((strOfNums [97]).toList == [97]) = true := by kernel_rfl
  clear ho1 hb1 hb1'
  go_upto_region 3 with (fail)
  have hrd := Rd.new w1 w.heap.size HB1.out.size
  have hk2 : Below w.heap.size w (w1.alloc (.cells #[.slice none 0 0, .int .i64 0] 32 (0, 0))) := below_alloc HB1.out _
  have ho2 := Kd.R_alloc HO1.out (.cells #[.slice none 0 0, .int .i64 0] 32 (0, 0))
  generalize w1.alloc (.cells #[.slice none 0 0, .int .i64 0] 32 (0, 0)) = w2 at hrd hk2 ho2 ⊢
  generalize w1.heap.size = g at hrd ⊢
  have HR2 := Aside0.mk (hrd.below (below_alloc (Below.refl _ _) (.cells ([120, 120, 120, 120, 120, 120, 120].map (Value.int .u8)).toArray 5 (7, 8))))
  have HK2 := Aside0.mk (below_alloc hk2 (.cells ([120, 120, 120, 120, 120, 120, 120].map (Value.int .u8)).toArray 5 (7, 8)))
  have HO2 := Aside0.mk (Kd.R_alloc ho2 (.cells ([120, 120, 120, 120, 120, 120, 120].map (Value.int .u8)).toArray 5 (7, 8)))
  have HC3 := Aside0.mk (const_reads w2 5 [120, 120, 120, 120, 120, 120, 120] 7 8 (by simp))
  clear hrd hk2 ho2 HO1 HB1 HC1
  go_wp2_with fail
  refine (feed (fun _ => False) w.heap.size g [] 0 _ _ [120, 120, 120, 120, 120, 120, 120] _ HR2.out HC3.out (by simp)).mono ?_
  rintro e w3 ⟨⟨_, rfl⟩, hr3, hk3⟩
  have hk3' : Kp (fun k => k = g) _ w3 := hk3.mono (fun k h => h.elim id False.elim)
  have HR3 := Aside0.mk hr3
  have HO3 := Aside0.mk (HR2.out.row_past HO2.out hk3')
  have HK3 := Aside0.mk (Kp.below HK2.out hk3' (fun i hi => hi ▸ HR2.out.1) HK2.out.size)
  clear hr3 hk3 hk3' HC3
  go_wp2_with fail
  refine (feed _ w.heap.size g _ 0 _ _ (mk [97]) _ HR3.out (Kd.R_reads' HO3.out).2.2 (by simp [mk_length])).mono ?_
  rintro e w4 ⟨⟨_, rfl⟩, hr4, hk4⟩
  have HR4 := Aside0.mk (hr4.mono (ok' := fun _ => True) (fun _ _ => trivial))
  have HK4 := Aside0.mk (Kp.below HK3.out hk4 (fun i hi => hi.elim (fun h => h ▸ HR3.out.1) (fun h => h.elim False.elim (fun h2 => Nat.le_trans HK2.out.size h2))) HK3.out.size)
  clear hr4 hk4
  go_wp2_with fail
  refine (next_calls _ w.heap.size g _ 0 _ HR4.out ?_ (by simp [mk_length]) (by omega) (by omega)).mono ?_
  · refine bytes_append ?_ (mk_bytes _ ?_)
    · intro x hx
      simp at hx
      omega
    · intro x hx
      simp at hx
      omega
  rintro e w5 ⟨v5, rfl, hr5, hk5, _, hx5⟩
  have e5 : nx ([] ++ [120, 120, 120, 120, 120, 120, 120] ++ mk [97]) = (some [97], [], 7) := awake_nx
  rw [e5] at hr5 hx5
  have HR5 : Aside0 (Rd (fun _ => True) w.heap.size w5 g [] 7) := ⟨hr5⟩
  have HO5 := Aside0.mk (hx5 [97] rfl)
  have HK5 := Aside0.mk (Kp.below HK4.out hk5 (fun i hi => hi ▸ HR2.out.1) HK4.out.size)
  have hcv := own_string (P := Try.prog) Try.underlying22 Try.underlying5 Try.underlying9 (Kd.own_of_R HO5.out)
  clear hr5 hx5 hk5
  go_wp2_with fail
  refine (lost_calls _ _ g _ _ w5 HR5.out).mono ?_
  rintro e w' ⟨rfl, hw⟩
  subst hw
  go_wp2_with fail
  refine (left_calls _ _ g _ _ w' HR5.out).mono ?_
  rintro e w'' ⟨rfl, hw⟩
  subst hw
  go_wp2_with fail
  go_ret
  exact ⟨rfl, HK5.out⟩

end Go.Proofs.Ytpkgpapdmjapmaa.Fns
