/- The document's tables: Install and Close. -/
import Derived.Test.YtlohaefhigbdjaaFdsRef
namespace Go.Proofs.Ytlohaefhigbdjaa.Fds
open Go.RowKit Go.Proofs.YtlohaefhigbdjaaW.PrintWords Go.Proofs.YtlohaefhigbdjaaW.PrintLast Go.Proofs.YtlohaefhigbdjaaW.PrintMore
set_option linter.unusedVariables false
set_option linter.unusedSimpArgs false

/-- What a call on the document's table leaves. -/
def RTurned (w : World) (B r : Nat) (g : Nat → Prop) (F L : List Int) (w' : World) : Prop := Ref w' B r g F L ∧ Below B w w' ∧ ∀ k, g k → w'.heap[k]? = w.heap[k]?

set_option maxHeartbeats 8000000 in
set_option maxRecDepth 100000 in
theorem rinstall_in (w : World) (B r : Nat) (g : Nat → Prop) (F L : List Int) (val : Int) (h : Ref w B r g F L) (hB : B ≤ w.heap.size) (hF : F.length < 16) (f : Nat) (hf : f < 16) (hi : rI F f = false) (hall : ∀ j : Nat, j < f → rI F j = true) :
    Calls Try.prog 17 #[.pointer (some ⟨r, 0, none⟩), .int .i64 val] w fun e w' => e = .returned (.tuple #[.int .i64 f, .int .i64 0]) ∧ RTurned w B r g (F ++ [(f : Int)]) (L ++ [val]) w' := by
  have HR := Aside0.mk h
  have HA := Aside0.mk hall
  have HI := Aside0.mk hi
  have HBB := Aside0.mk hB
  have HFF := Aside0.mk hF
  clear hall hi hB hF h
  go_enter Try.func17, Try.ntmps17
  go_wp2_with fail
  go_loop [6] (fun i => ∃ k : Nat, k ≤ f ∧ i = .int .i64 k) (fun i => 16 - (intOf i).toNat)
  case atStart => exact ⟨0, by omega, rfl⟩
  case round =>
    obtain ⟨k, hk, rfl⟩ := hrel
    have hk16 : (k : Int) < 16 := by omega
    by_cases hkf : k < f
    · have HG := Aside0.mk (rget_is w B r g F L k HR.out)
      rw [HA.out k hkf] at HG
      go_wp2_with fail
      refine HG.out.mono ?_
      rintro e w1 ⟨rfl, rfl⟩
      go_wp2_with fail
      go_round
      case rel => exact ⟨k + 1, by omega, by go_num⟩
      case measure => simp [intOf]; omega
    · obtain rfl : f = k := by omega
      have HG := Aside0.mk (rget_is w B r g F L f HR.out)
      rw [HI.out] at HG
      obtain ⟨vF, vV, hra, hlen, hsm⟩ := HR.out
      have HRA := Aside0.mk hra
      have HL := Aside0.mk hlen
      have k0 : w.cell? ⟨r, 0, none⟩ = some vF := by rw [blk_cell hra.blk]; rfl
      clear hra hlen hsm hkf hk
      go_wp2_with fail
      refine HG.out.mono ?_
      rintro e w1 ⟨rfl, rfl⟩
      clear HG
      go_wp2_with ((with_reducible refine gate_dst (N := 28) rfl ?_); refine app_list (w0 := w) B rfl (.tmp 25) (.tmp 27) rfl rfl vF F [(f : Int)] _ _ _ (okOf r g vV) rfl rfl ?hfr ?ho ?hc ?hb ?hz ?hl ?_)
      case hfr => exact okOf_fresh (w := w.alloc _) (by have := HRA.out.lt; simp; omega) (fun k hk => by have := HRA.out.gl k hk; simp; omega) (fun k hk => by have := HRA.out.ltV k hk; simp; omega)
      case ho => exact Kd.R_alloc HRA.out.f _
      case hc => exact lit_int _ _ _ rfl
      case hb => exact (Below.refl B w).alloc HBB.out _
      case hz => have := HBB.out; simp; omega
      case hl => have := HFF.out; omega
      intro v1 w1 hR hBl hg hat
      have hB1 := hBl.size
      have hp := (HRA.out.of_below (below_alloc (Below.refl _ _) (.cells #[.int .i64 (f : Int)] 3))).putF hg hR (hat_of (by simpa using hat))
      have HP := Aside0.mk hp.2.2.1
      have HPG : Aside0 (∀ k, g k → (w1.setCell ⟨r, 0, none⟩ v1).heap[k]? = w.heap[k]?) := ⟨fun k hk => (hp.2.2.2 k hk).trans ((below_alloc (Below.refl _ w) _).block k (HRA.out.gl k hk))⟩
      have HPB := Aside0.mk (below_set hBl HRA.out.br (by have := HBB.out; omega) 0 v1)
      have k0' := hp.1
      have f0' := hp.2.1
      obtain ⟨A1, c1, e1⟩ := Kd.R_slice hR
      subst e1
      obtain ⟨n1, hn1⟩ : ∃ n, n = (F ++ [(f : Int)]).length := ⟨_, rfl⟩
      rw [← hn1] at HP HPG HPB ⊢
      have k1' := HP.out.cell1
      have HN1 := Aside0.mk hn1
      clear hp hR hBl hg hat hn1 k0
      go_wp2_with ((with_reducible refine gate_dst (N := 38) rfl ?_); refine app_list (w0 := w) B rfl (.tmp 35) (.tmp 37) rfl rfl vV L [val] _ _ _ (okOf r g (.slice A1 n1 c1)) rfl rfl ?hfr2 ?ho2 ?hc2 ?hb2 ?hz2 ?hl2 ?_)
      case hfr2 => exact okOf_fresh (by have := HP.out.lt; simp at this ⊢; omega) (fun k hk => by have := HP.out.gl k hk; simp at this ⊢; omega) (fun k hk => by have := HP.out.ltF k hk; simp at this ⊢; omega)
      case ho2 => exact Kd.R_alloc HP.out.v _
      case hc2 => exact lit_int _ _ _ (by simp)
      case hb2 => exact HPB.out.alloc (by have := HBB.out; have := HPB.out.size; omega) _
      case hz2 => have := HBB.out; have := HPB.out.size; simp at this ⊢; omega
      case hl2 => have := HFF.out; have := HL.out; omega
      intro v2 w2 hR hBl hg hat
      have hp := (HP.out.of_below (below_alloc (Below.refl _ _) (.cells #[.int .i64 val] 3))).putV hg hR (hat_of (by simpa using hat))
      have HQ := Aside0.mk hp.2.2.1
      have HQG : Aside0 (∀ k, g k → (w2.setCell ⟨r, 1, none⟩ v2).heap[k]? = w.heap[k]?) := ⟨fun k hk => (hp.2.2.2 k hk).trans (((below_alloc (Below.refl _ _) _).block k (HP.out.gl k hk)).trans (HPG.out k hk))⟩
      have HQB := Aside0.mk (below_set hBl HRA.out.br (by have := HBB.out; have := hBl.size; omega) 1 v2)
      have k0'' := hp.1
      have f0'' := hp.2.1
      obtain ⟨A2, c2, e2⟩ := Kd.R_slice hR
      subst e2
      obtain ⟨n2, hn2⟩ : ∃ n, n = (L ++ [val]).length := ⟨_, rfl⟩
      rw [← hn2] at HQ HQG HQB ⊢
      clear hp hR hBl hg hat hn2 k0' f0' k1'
      go_wp2_with fail
      go_ret2
      exact ⟨rfl, ⟨_, _, HQ.out, by simp [HL.out], by have := HFF.out; simp; omega⟩, HQB.out, HQG.out⟩

set_option maxHeartbeats 8000000 in
set_option maxRecDepth 100000 in
theorem rinstall_full (w : World) (B r : Nat) (g : Nat → Prop) (F L : List Int) (val : Int) (h : Ref w B r g F L) (hall : ∀ j : Nat, j < 16 → rI F j = true) :
    Calls Try.prog 17 #[.pointer (some ⟨r, 0, none⟩), .int .i64 val] w fun e w' => e = .returned (.tuple #[.int .i64 (-1), .int .i64 16]) ∧ w = w' := by
  have HR := Aside0.mk h
  have HA := Aside0.mk hall
  clear hall h
  go_enter Try.func17, Try.ntmps17
  go_wp2_with fail
  go_loop [6] (fun i => ∃ k : Nat, k ≤ 16 ∧ i = .int .i64 k) (fun i => 16 - (intOf i).toNat)
  case atStart => exact ⟨0, by omega, rfl⟩
  case round =>
    obtain ⟨k, hk, rfl⟩ := hrel
    by_cases hkf : k < 16
    · have hk16 : (k : Int) < 16 := by omega
      have HG := Aside0.mk (rget_is w B r g F L k HR.out)
      rw [HA.out k hkf] at HG
      go_wp2_with fail
      refine HG.out.mono ?_
      rintro e w1 ⟨rfl, rfl⟩
      go_wp2_with fail
      go_round
      case rel => exact ⟨k + 1, by omega, by go_num⟩
      case measure => simp [intOf]; omega
    · obtain rfl : k = 16 := by omega
      go_wp2_with fail
      go_ret2
      exact ⟨rfl, rfl⟩
end Go.Proofs.Ytlohaefhigbdjaa.Fds
