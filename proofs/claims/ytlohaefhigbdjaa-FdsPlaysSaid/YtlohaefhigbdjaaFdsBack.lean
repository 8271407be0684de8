/- FdsBack: its walk. -/
import Derived.Test.YtlohaefhigbdjaaFdsSame
namespace Go.Proofs.Ytlohaefhigbdjaa.Fds
open Go.RowKit Go.Proofs.YtlohaefhigbdjaaW.PrintWords
set_option linter.unusedVariables false
set_option linter.unusedSimpArgs false

set_option maxHeartbeats 4000000 in
set_option maxRecDepth 100000 in
theorem same_nil (w : World) (g : Nat) :
    Calls Try.prog 16 #[.pointer (some ⟨g, 0, none⟩), .pointer none] w fun e w' => e = .returned (.bool false) ∧ ∃ n, w' = w.drewN n := by
  go_enter Try.func16, Try.ntmps16
  go_wp2_with fail
  go_quiet (fail)
  go_wp2
  go_ret
  exact ⟨by first | rfl | simp, nq, rfl⟩

/-- A free place holds nothing. -/
def Clear (V : List Int) (I : List Bool) : Prop := ∀ j, j < 16 → I.getD j false = false → V.getD j 0 = 0
theorem clear0 : Clear V0 I0 := by unfold Clear; decide
theorem getD_set {α : Type} (l : List α) (i j : Nat) (x d : α) (h : i < l.length) : (l.set i x).getD j d = if i = j then x else l.getD j d := by
  simp only [List.getD_eq_getElem?_getD, List.getElem?_set]
  by_cases e : i = j
  · subst e; simp [h]
  · simp [e]
theorem Clear.install {V : List Int} {I : List Bool} (h : Clear V I) (lv : V.length = 16) (li : I.length = 16) (val : Int) : Clear (inV V I val) (inI I) := by
  unfold inV inI
  by_cases hf : free I < 16
  · rw [if_pos hf, if_pos hf]
    intro j hj hi
    rw [getD_set _ _ _ _ _ (by omega)] at hi ⊢
    by_cases e : free I = j
    · rw [if_pos e] at hi; cases hi
    · rw [if_neg e] at hi ⊢; exact h j hj hi
  · rw [if_neg hf, if_neg hf]; exact h
theorem has_lt {I : List Bool} {k : Int} (h : has I k = true) : 0 ≤ k ∧ k < 16 ∧ I.getD k.toNat false = true := by
  unfold has at h
  simp only [Bool.and_eq_true, decide_eq_true_eq] at h
  exact ⟨h.1.1, h.1.2, h.2⟩
theorem Clear.close {V : List Int} {I : List Bool} (h : Clear V I) (lv : V.length = 16) (li : I.length = 16) (k : Int) : Clear (clV V I k) (clI I k) := by
  unfold clV clI
  by_cases hf : has I k = true
  · rw [if_pos hf, if_pos hf]
    have hl := has_lt hf
    intro j hj hi
    rw [getD_set _ _ _ _ _ (by omega)] at hi ⊢
    by_cases e : k.toNat = j
    · rw [if_pos e]
    · rw [if_neg e] at hi ⊢; exact h j hj hi
  · rw [if_neg hf, if_neg hf]; exact h
theorem set_back {α : Type} (l : List α) (f : Nat) (x y d : α) (h : f < l.length) (hy : l.getD f d = y) : (l.set f x).set f y = l := by
  apply List.ext_getElem (by simp)
  intro j h1 h2
  simp only [List.getElem_set]
  by_cases e : f = j
  · subst e
    rw [if_pos rfl, ← hy]
    simp [List.getD_eq_getElem?_getD, h]
  · rw [if_neg e, if_neg e]

/-- Both tables, in one world: two blocks, alike. -/
structure Two (w : World) (g u : Nat) (V : List Int) (I : List Bool) : Prop where
  t : Tab w g V I
  u : Tab w u V I
  ok : Clear V I

set_option maxHeartbeats 16000000 in
set_option maxRecDepth 100000 in
theorem back_any (A : Option Addr) (len cap : Nat) (val : Int) (w : World) (ho : OpsRow w A len) :
    Calls Try.prog 6 #[.slice A len cap, .int .i64 val] w fun e w' => e = .returned (.bool true) ∧ Below w.heap.size w w' := by
  have hlen := ho.1
  have HO := Aside0.mk ho.2
  clear ho
  go_enter Try.func6, Try.ntmps6
  go_wp2_with fail
  refine (awake_is _).mono ?_
  rintro e w1 ⟨rfl, hb⟩
  have HB := Aside0.mk hb
  clear hb
  go_wp2_with fail
  refine (new_is _).mono ?_
  rintro e w2 ⟨rfl, hb, ht⟩
  have HB2 := Aside0.mk hb
  have HT := Aside0.mk ht
  clear hb ht
  go_wp2_with fail
  refine (new_is _).mono ?_
  rintro e w3 ⟨rfl, hb, ht⟩
  have hsz := HB.out.size
  have hsz2 := HT.out.lt
  have HB3 := Aside0.mk (below_then (below_then HB.out hsz HB2.out) (by have := HB2.out.size; omega) hb)
  have HTW : Aside0 (Two w3 w1.heap.size w2.heap.size V0 I0) := ⟨⟨HT.out.of_below hb, ht, clear0⟩⟩
  obtain ⟨g, hg⟩ : ∃ g, g = w1.heap.size := ⟨_, rfl⟩
  obtain ⟨u, hu⟩ : ∃ u, u = w2.heap.size := ⟨_, rfl⟩
  have HG := Aside0.mk (show w.heap.size ≤ g ∧ g < u by omega)
  rw [← hg, ← hu] at HTW
  rw [← hg, ← hu]
  clear hb ht hg hu hsz hsz2 HB HB2 HT
  go_wp2_with fail
  refine (same_is _ _ _ _ _ _ _ HTW.out.t HTW.out.u).mono ?_
  rintro e w4 ⟨rfl, ⟨n4, rfl⟩⟩
  simp only [show (V0 == V0 && I0 == I0) = true from rfl]
  go_wp2_with fail
  refine (same_nil _ _).mono ?_
  rintro e w5 ⟨rfl, ⟨n5, rfl⟩⟩
  go_wp2_with fail
  go_loopw [8] (fun i wr => ∃ (k : Nat) (V : List Int) (I : List Bool), k ≤ len ∧ i = .int .i64 k ∧ Aside0 (Two wr g u V I) ∧ Aside0 (Below w.heap.size w wr)) (fun i _ => len - (intOf i).toNat)
  case atStart => exact ⟨0, _, _, by omega, rfl, ⟨⟨(HTW.out.t.drewN _), (HTW.out.u.drewN _), clear0⟩⟩, ⟨by repeat (first | exact HB3.out | apply pw_below_drewN)⟩⟩
  case round =>
    obtain ⟨k, V, I, hk, rfl, HTk, HBk⟩ := hrel
    clear HTW HB3
    by_cases hgo : k < len ∧ k < 200
    · obtain ⟨hkl, hk2⟩ := hgo
      obtain ⟨b, off, x, y, hA, cx, cy⟩ := HO.out k hkl
      replace cx := pw_cell_below HBk.out cx
      replace cy := pw_cell_below HBk.out cy
      have hbl := World.block_lt_of_cell? _ _ cy
      subst hA
      have q1 : decide ((k : Int) < (len : Int)) = true := by simp; omega
      have q2 : decide ((k : Int) < 200) = true := by simp; omega
      have q3 : decide (k < len) = true := by simpa using hkl
      have q4 : decide (k < 200) = true := by simpa using hk2
      have CX : Aside0 (∀ W : World, Below w.heap.size w W → W.cell? ⟨b, off + k * 2 + 1, none⟩ = some (.int .i64 y)) := by
        obtain ⟨b', off', x', y', hA', cx', cy'⟩ := HO.out k hkl
        cases hA'
        refine ⟨fun W hW => ?_⟩
        have e1 := pw_cell_below HBk.out cy'
        rw [cy] at e1
        rw [pw_cell_below hW cy', e1]
      by_cases hx : x = 0 ∨ x = 1
      · rcases hx with rfl | rfl
        all_goals
          go_wp2_with fail
          refine (install_any _ _ _ _ HTk.out.t _).mono ?_
          rintro e w6 ⟨rfl, ht⟩
          have HT3 := Aside0.mk ht
          have HU3 := Aside0.mk (HTk.out.u.of_kept ht.2 (by have := HG.out; omega))
          have HB6 := Aside0.mk (Kept.below HBk.out ht.2 HG.out.1 (by have := HBk.out.size; omega))
          have cy6 := CX.out _ HB6.out
          clear ht
          go_wp2_with fail
          refine (install_any _ _ _ _ HU3.out _).mono ?_
          rintro e w7 ⟨rfl, ht⟩
          have HT7 := Aside0.mk ht
          clear ht
          go_wp2_with fail
          go_roundw
          case rel => exact ⟨k + 1, _, _, by omega, by go_num, ⟨⟨HT3.out.1.of_kept HT7.out.2 (by have := HG.out; omega), HT7.out.1, HTk.out.ok.install HTk.out.t.lv HTk.out.t.li _⟩⟩, ⟨Kept.below HB6.out HT7.out.2 (by have := HG.out; omega) (by have := HB6.out.size; omega)⟩⟩
          case measure => simp [intOf]; omega
      · have x0 : (x == 0) = false := by simp; omega
        have x1 : (x == 1) = false := by simp; omega
        clear hx
        go_wp2_with fail
        refine (close_any _ _ _ _ HTk.out.t _).mono ?_
        rintro e w6 ⟨rfl, ht⟩
        have HT3 := Aside0.mk ht
        have HU3 := Aside0.mk (HTk.out.u.of_kept ht.2 (by have := HG.out; omega))
        have HB6 := Aside0.mk (Kept.below HBk.out ht.2 HG.out.1 (by have := HBk.out.size; omega))
        have cy6 := CX.out _ HB6.out
        clear ht
        go_wp2_with fail
        refine (close_any _ _ _ _ HU3.out _).mono ?_
        rintro e w7 ⟨rfl, ht⟩
        have HT7 := Aside0.mk ht
        clear ht
        go_wp2_with fail
        go_roundw
        case rel => exact ⟨k + 1, _, _, by omega, by go_num, ⟨⟨HT3.out.1.of_kept HT7.out.2 (by have := HG.out; omega), HT7.out.1, HTk.out.ok.close HTk.out.t.lv HTk.out.t.li _⟩⟩, ⟨Kept.below HB6.out HT7.out.2 (by have := HG.out; omega) (by have := HB6.out.size; omega)⟩⟩
        case measure => simp [intOf]; omega
    · have hgo' : (decide ((k : Int) < (len : Int)) = false ∧ decide (k < len) = false) ∨ (decide ((k : Int) < (len : Int)) = true ∧ decide (k < len) = true ∧ decide ((k : Int) < 200) = false ∧ decide (k < 200) = false) := by
        by_cases h : k < len
        · exact .inr ⟨by simp; omega, by simpa using h, by simp; omega, by simp; omega⟩
        · exact .inl ⟨by simp; omega, by simp; omega⟩
      clear hgo hk
      rcases hgo' with ⟨q1, q2⟩ | ⟨q1, q2, q3, q4⟩
      all_goals
        clear HO hlen
        have hfs := free_spec I
        rw [HTk.out.t.li] at hfs
        have HIN := Aside0.mk (install_any _ _ _ _ HTk.out.t val)
        unfold inR inE inV inI at HIN
        by_cases hf : free I < 16
        · simp only [if_pos hf] at HIN
          have hfa := hfs.2.1 hf
          have HFA := Aside0.mk hfa
          clear hfs hfa
          generalize free I = f at *
          go_wp2_with fail
          refine HIN.out.mono ?_
          rintro e w6 ⟨rfl, ht⟩
          have HT6 := Aside0.mk ht.1
          have HU6 := Aside0.mk (HTk.out.u.of_kept ht.2 (by have := HG.out; omega))
          have HB6 := Aside0.mk (Kept.below HBk.out ht.2 HG.out.1 (by have := HBk.out.size; omega))
          clear ht HIN
          go_wp2_with fail
          refine (get_any _ _ _ _ HU6.out f hf).mono ?_
          rintro e w7 ⟨rfl, rfl⟩
          simp only [gv, HFA.out, Bool.false_eq_true, if_false]
          go_wp2_with fail
          refine (same_is _ _ _ _ _ _ _ HT6.out HU6.out).mono ?_
          rintro e w8 ⟨rfl, ⟨n8, rfl⟩⟩
          have hne : (V.set f val == V && I.set f true == I) = false := by
            have h1 : ¬ I.set f true = I := by
              intro e
              have h2 := getD_set I f f true false (by have := HTk.out.t.li; omega)
              rw [e, if_pos rfl, HFA.out] at h2
              cases h2
            simp [h1]
          rw [hne]
          clear hne
          have hI' : (I.set f true).getD f false = true := by rw [getD_set _ _ _ _ _ (by have := HTk.out.t.li; omega), if_pos rfl]
          have HC := Aside0.mk (close_in _ _ _ _ (HT6.out.drewN n8) f hf hI')
          rw [set_back I f true false false (by have := HTk.out.t.li; omega) HFA.out, set_back V f val 0 0 (by have := HTk.out.t.lv; omega) (HTk.out.ok f hf HFA.out)] at HC
          clear hI'
          go_wp2_with fail
          refine HC.out.mono ?_
          rintro e w9 ⟨rfl, ht⟩
          have HT9 := Aside0.mk ht.1
          have HU9 := Aside0.mk ((HU6.out.drewN n8).of_kept ht.2 (by have := HG.out; omega))
          have HB9 := Aside0.mk (Kept.below (pw_below_drewN HB6.out n8) ht.2 HG.out.1 (by have := HB6.out.size; simpa using this))
          clear ht HC
          go_wp2_with fail
          refine (same_is _ _ _ _ _ _ _ HT9.out HU9.out).mono ?_
          rintro e w10 ⟨rfl, ⟨n10, rfl⟩⟩
          simp only [BEq.rfl, Bool.and_self]
          go_wp2_with fail
          refine (same_is _ _ _ _ _ _ _ (HU9.out.drewN n10) (HT9.out.drewN n10)).mono ?_
          rintro e w11 ⟨rfl, ⟨n11, rfl⟩⟩
          simp only [BEq.rfl, Bool.and_self]
          go_wp2_with fail
          go_ret
          exact ⟨by first | rfl | simp, by repeat (first | exact HB9.out | apply pw_below_drewN)⟩
        · simp only [if_neg hf] at HIN
          clear hfs
          go_wp2_with fail
          refine HIN.out.mono ?_
          rintro e w6 ⟨rfl, ht⟩
          have HT6 := Aside0.mk ht.1
          have HU6 := Aside0.mk (HTk.out.u.of_kept ht.2 (by have := HG.out; omega))
          have HB6 := Aside0.mk (Kept.below HBk.out ht.2 HG.out.1 (by have := HBk.out.size; omega))
          clear ht HIN
          go_wp2_with fail
          refine (same_is _ _ _ _ _ _ _ HT6.out HU6.out).mono ?_
          rintro e w8 ⟨rfl, ⟨n8, rfl⟩⟩
          simp only [BEq.rfl, Bool.and_self]
          go_wp2_with fail
          go_ret
          exact ⟨by first | rfl | simp, by repeat (first | exact HB6.out | apply pw_below_drewN)⟩
end Go.Proofs.Ytlohaefhigbdjaa.Fds
