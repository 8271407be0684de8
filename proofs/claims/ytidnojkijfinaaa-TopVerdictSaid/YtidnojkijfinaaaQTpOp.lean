/- Part of the proof of TopVerdictSaid. -/
import Derived.Test.YtidnojkijfinaaaQTpRead
namespace Go.Proofs.Ytidnojkijfinaaa.Fns
open Go.RowKit Go.Proofs.YtidnojkijfinaaaW.PrintWords Go.Proofs.YtidnojkijfinaaaW.PrintLast Go.Proofs.YtidnojkijfinaaaW.PrintMore
attribute [local go_sem] max2_int min2_int max_two min_two max_three min_three max_four min_four
set_option linter.unusedVariables false
set_option linter.unusedSimpArgs false
def signs : List ByteArray := [⟨#[61, 61]⟩, ⟨#[33, 61]⟩, ⟨#[60]⟩, ⟨#[60, 61]⟩, ⟨#[62]⟩, ⟨#[62, 61]⟩]
def signCells : Array Value := #[.string ⟨#[61, 61]⟩, .string ⟨#[33, 61]⟩, .string ⟨#[60]⟩, .string ⟨#[60, 61]⟩, .string ⟨#[62]⟩, .string ⟨#[62, 61]⟩]
theorem sign_cell (k : Nat) (h : k < 6) : signCells[k]? = some (.string (signs.getD k ⟨#[]⟩)) := by
  have : k = 0 ∨ k = 1 ∨ k = 2 ∨ k = 3 ∨ k = 4 ∨ k = 5 := by omega
  rcases this with rfl | rfl | rfl | rfl | rfl | rfl <;> rfl
def signAt (l : List S68) (n : Nat) : Nat → Nat → Option Nat
  | 0, _ => none
  | d + 1, k => if takeB l 3 (signs.getD k ⟨#[]⟩) n then some k else signAt l n d (k + 1)
def opR (l : List S68) (n : Nat) : PR Int := match signAt l n 6 0 with
  | some k => .ok ((k : Int) + 1, n + 1)
  | none => .error (7, (l.getD n z68).f1)
def encI : World → Value → Int → Prop := fun _ v a => v = .int .i64 a
set_option maxHeartbeats 16000000 in
set_option maxRecDepth 100000 in
theorem op_calls (w : World) (g : Nat) (A : Option Addr) (c : Nat) (l : List S68) (n : Nat) (h : Rdr w g A c l n) :
    Calls Try.prog 56 #[.pointer (some ⟨g, 0, none⟩)] w fun e w' => Parsed encI w g A c l (opR l n) e w' := by
  have H := Aside0.mk h
  obtain ⟨r, hr⟩ : ∃ r, opR l n = r := ⟨_, rfl⟩
  have HTB := Aside0.mk hr
  have HS : Aside0 ((match signAt l n 6 0 with | some k => .ok ((k : Int) + 1, n + 1) | none => .error (7, (l.getD n z68).f1)) = r) := ⟨hr⟩
  have N0 := Aside0.mk (show w.heap.size ≠ g by have := blk_lt h.blk; omega)
  clear h hr
  go_enter Try.func56, Try.ntmps56
  go_wp2_with fail
  go_loopw [9] (fun v9 wr => ∃ k : Nat, v9 = .int .i64 (k : Int) ∧ k ≤ 6 ∧ Aside0 ((match signAt l n (6 - k) k with | some k => (.ok ((k : Int) + 1, n + 1) : PR Int) | none => .error (7, (l.getD n z68).f1)) = r) ∧ Aside0 (Rdr wr g A c l n) ∧ Aside0 (w.grownBy wr (some g)) ∧ Aside0 (wr.heap[w.heap.size]? = some (.cells signCells 9 (0, 0)))) (fun v9 _ => 6 - (intOf v9).toNat)
  case atStart => exact ⟨0, rfl, by omega, HS, ⟨H.out.grown (below_alloc (Below.refl _ _) _)⟩, ⟨gr_alloc (gr_refl _ _) _⟩, ⟨blk_new w _⟩⟩
  case round =>
    clear HS H
    obtain ⟨k, rfl, hk, HS, HR, HG, HK⟩ := hrel
    by_cases hlt : k < 6
    · have d1 : decide ((k : Int) < 6) = true := decide_eq_true (by omega)
      have d2 : decide (k < 6) = true := decide_eq_true hlt
      have p1 : (0 ≤ (k : Int)) = True := eq_true (by omega)
      have p2 : ((k : Int) < 6) = True := eq_true (by omega)
      have p3 : (k < 6) = True := eq_true (by omega)
      have hs := HS.out
      rw [show 6 - k = (6 - (k + 1)) + 1 by omega, signAt] at hs
      have x0 : wr.cell? ⟨w.heap.size, k, none⟩ = some (.string (signs.getD k ⟨#[]⟩)) := (blk_cell HK.out k).trans (sign_cell k hlt)
      generalize signs.getD k ⟨#[]⟩ = text at hs x0
      have HL := Aside0.mk hlt
      have HSS := Aside0.mk hs
      clear hlt hk hs HS
      obtain ⟨b, hb⟩ : ∃ b, takeB l 3 text n = b := ⟨_, rfl⟩
      have HB := Aside0.mk hb
      clear hb
      go_wp2_with fail
      have htc := take_calls 3 text _ g A c l n HR.out (by decide)
      rw [HB.out] at htc
      refine htc.mono ?_
      clear htc
      rintro e w2 ⟨rfl, hR2, hG2⟩
      have R2 := Aside0.mk hR2
      have G2 := Aside0.mk (HG.out.trans hG2)
      have K2 := Aside0.mk (gr_blk hG2 HK.out (fun e => N0.out (by cases e; rfl)))
      have hs := HSS.out
      rw [HB.out] at hs
      have HKW := Aside0.mk (show wrap64 ((k : Int) + 1) = ((k + 1 : Nat) : Int) by have := HL.out; rw [IntWalk.wrap64_in _ (by omega)]; rfl)
      have HKW2 := Aside0.mk (show wrap64 (1 + (k : Int)) = (k : Int) + 1 by have := HL.out; rw [IntWalk.wrap64_in _ (by omega)]; omega)
      clear hR2 hG2 x0 HSS HK HG HR
      cases b with
      | true =>
        rw [if_pos rfl] at hs
        subst hs
        go_wp2_with fail
        go_ret
        rw [HTB.out]
        have hr := R2.out
        unfold takeN at hr
        rw [HB.out, if_pos rfl] at hr
        exact ⟨_, rfl, by first | (rw [← HKW2.out]; rfl) | (show _ = _; simp; omega), hr, G2.out⟩
      | false =>
        rw [if_neg (by simp)] at hs
        have HS2 := Aside0.mk hs
        have hr := R2.out
        unfold takeN at hr
        rw [HB.out, if_neg (by simp)] at hr
        have R3 := Aside0.mk hr
        clear hs hr
        go_wp2_with fail
        rw [HKW.out]
        refine ⟨⟨k + 1, rfl, by have := HL.out; omega, HS2, R3, G2, K2⟩, ?_⟩
        have := HL.out
        simp only [intOf]
        omega
    · obtain rfl : k = 6 := by omega
      have hs := HS.out
      simp only [Nat.sub_self, signAt] at hs
      have hs2 : (Except.error (7, (l.getD n z68).f1) : PR Int) = r := hs
      have HS2 := Aside0.mk hs2
      clear hs hs2 HS hlt hk
      go_wp2_with fail
      refine (fail_calls 7 _ g A c l n HR.out).mono ?_
      rintro e w2 ⟨rfl, hb⟩
      refine ⟨rfl, ?_⟩
      rw [HTB.out, ← HS2.out]
      exact ⟨rfl, gr_below HG.out hb⟩
end Go.Proofs.Ytidnojkijfinaaa.Fns
