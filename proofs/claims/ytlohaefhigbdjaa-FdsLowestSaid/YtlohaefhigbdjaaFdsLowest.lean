/- FdsLowest: its walk. -/
import Derived.Test.YtlohaefhigbdjaaFdsPlay
namespace Go.Proofs.Ytlohaefhigbdjaa.Fds
open Go.RowKit Go.Proofs.YtlohaefhigbdjaaW.PrintWords
set_option linter.unusedVariables false
set_option linter.unusedSimpArgs false

/-- What was noted of the first k places. -/
def oldV (V : List Int) (I : List Bool) (k : Nat) : List Int := (List.range 16).map fun j => if j < k then gv V I j else 0
def oldI (I : List Bool) (k : Nat) : List Bool := (List.range 16).map fun j => decide (j < k) && I.getD j false
theorem oldV_succ (V : List Int) (I : List Bool) (k : Nat) (hk : k < 16) : (oldV V I k).set k (gv V I k) = oldV V I (k + 1) := by
  unfold oldV
  apply List.ext_getElem (by simp)
  intro j h1 h2
  simp only [List.getElem_set, List.getElem_map, List.getElem_range]
  by_cases e : k = j
  · subst e; simp
  · simp only [if_neg e]
    by_cases h : j < k
    · rw [if_pos h, if_pos (by omega)]
    · rw [if_neg h, if_neg (by omega)]
theorem oldI_succ (I : List Bool) (k : Nat) (hk : k < 16) : (oldI I k).set k (I.getD k false) = oldI I (k + 1) := by
  unfold oldI
  apply List.ext_getElem (by simp)
  intro j h1 h2
  simp only [List.getElem_set, List.getElem_map, List.getElem_range]
  by_cases e : k = j
  · subst e; simp
  · simp only [if_neg e]
    by_cases h : j < k
    · simp [h, Nat.lt_succ_of_lt h]
    · have : ¬ j < k + 1 := by omega
      simp [h, this]
theorem oldV_at (V : List Int) (I : List Bool) (j : Nat) (h : j < 16) : (oldV V I 16)[j]? = some (gv V I j) := by
  unfold oldV; simp [h]
theorem oldI_at (I : List Bool) (j : Nat) (h : j < 16) : (oldI I 16)[j]? = some (I.getD j false) := by
  unfold oldI; simp [h]

/-- The two arrays of the law's own. -/
structure Olds (w : World) (b8 b9 : Nat) (V : List Int) (I : List Bool) (k : Nat) : Prop where
  v : w.heap[b8]? = some (.cells ((oldV V I k).map (Value.int .i64)).toArray 43 (0, 0))
  i : w.heap[b9]? = some (.cells ((oldI I k).map Value.bool).toArray 44 (0, 0))
theorem Olds.valAt {w : World} {b8 b9 : Nat} {V : List Int} {I : List Bool} (h : Olds w b8 b9 V I 16) (j : Nat) (hj : j < 16) : w.cell? ⟨b8, j, none⟩ = some (.int .i64 (gv V I j)) := by
  rw [blk_cell h.v]; simp [oldV_at V I j hj]
theorem Olds.isAt {w : World} {b8 b9 : Nat} {V : List Int} {I : List Bool} (h : Olds w b8 b9 V I 16) (j : Nat) (hj : j < 16) : w.cell? ⟨b9, j, none⟩ = some (.bool (I.getD j false)) := by
  rw [blk_cell h.i]; simp [oldI_at I j hj]
theorem Olds.someV {w : World} {b8 b9 : Nat} {V : List Int} {I : List Bool} {k : Nat} (h : Olds w b8 b9 V I k) (j : Nat) (hj : j < 16) : ∃ x, w.cell? ⟨b8, j, none⟩ = some (.int .i64 x) := by
  rw [blk_cell h.v]; exact ⟨_, by simp [oldV, hj]; rfl⟩
theorem Olds.someI {w : World} {b8 b9 : Nat} {V : List Int} {I : List Bool} {k : Nat} (h : Olds w b8 b9 V I k) (j : Nat) (hj : j < 16) : ∃ x, w.cell? ⟨b9, j, none⟩ = some (.bool x) := by
  rw [blk_cell h.i]; exact ⟨_, by simp [oldI, hj]; rfl⟩
theorem Olds.next {w : World} {b8 b9 : Nat} {V : List Int} {I : List Bool} {k : Nat} (h : Olds w b8 b9 V I k) (hk : k < 16) (hne : b8 ≠ b9) :
    Olds ((w.setCell ⟨b8, k, none⟩ (.int .i64 (gv V I k))).setCell ⟨b9, k, none⟩ (.bool (I.getD k false))) b8 b9 V I (k + 1) := by
  have h1 : (w.setCell ⟨b8, k, none⟩ (.int .i64 (gv V I k))).heap[b8]? = some (.cells ((oldV V I (k + 1)).map (Value.int .i64)).toArray 43 (0, 0)) := by
    rw [blk_set h.v]
    simp only [List.setIfInBounds_toArray]
    rw [← List.map_set, oldV_succ V I k hk]
  have h2 : (w.setCell ⟨b8, k, none⟩ (.int .i64 (gv V I k))).heap[b9]? = some (.cells ((oldI I k).map Value.bool).toArray 44 (0, 0)) := by
    rw [Below.heap_setCell w ⟨b8, k, none⟩ _ b9 (fun e => hne e.symm)]; exact h.i
  constructor
  · rw [Below.heap_setCell _ ⟨b9, k, none⟩ _ b8 hne]; exact h1
  · rw [blk_set h2]
    simp only [List.setIfInBounds_toArray]
    rw [← List.map_set, oldI_succ I k hk]
theorem Olds.of_kept {w w' : World} {b8 b9 g : Nat} {V : List Int} {I : List Bool} {k : Nat} (h : Olds w b8 b9 V I k) (hk : Kept g w w') (h8 : b8 ≠ g) (h9 : b9 ≠ g) : Olds w' b8 b9 V I k :=
  ⟨(hk.block b8 (blk_lt h.v) h8).trans h.v, (hk.block b9 (blk_lt h.i) h9).trans h.i⟩

theorem blk_far_frozen (w : World) (p q : Addr) (u : Value) : (w.setCell p u).frozen? q = w.frozen? q := by
  exact World.frozen?_setCell ..

set_option maxHeartbeats 16000000 in
set_option maxRecDepth 100000 in
theorem lowest_any (A : Option Addr) (len cap : Nat) (val : Int) (w : World) (ho : OpsRow w A len) :
    Calls Try.prog 5 #[.slice A len cap, .int .i64 val] w fun e w' => e = .returned (.bool true) ∧ Below w.heap.size w w' := by
  have hlen := ho.1
  have HO := Aside0.mk ho.2
  clear ho
  go_enter Try.func5, Try.ntmps5
  go_wp2_with fail
  refine (awake_is _).mono ?_
  rintro e w1 ⟨rfl, hb⟩
  have HB := Aside0.mk hb
  clear hb
  go_wp2_with fail
  refine (new_is _).mono ?_
  rintro e w2 ⟨rfl, hb, ht⟩
  have HB2 := Aside0.mk (below_then HB.out (below_size HB.out) hb)
  have HT := Aside0.mk ht
  have hz := Aside0.mk HB.out.size
  obtain ⟨g, hg⟩ : ∃ g, g = w1.heap.size := ⟨_, rfl⟩
  rw [← hg]
  rw [← hg] at HT
  have HG := Aside0.mk (show w.heap.size ≤ g by rw [hg]; exact hz.out)
  clear hb ht hg hz
  go_wp2_with fail
  go_loopw [7] (fun i wr => ∃ (k : Nat) (V : List Int) (I : List Bool), k ≤ len ∧ i = .int .i64 k ∧ Aside0 (Tab wr g V I) ∧ Aside0 (Below w.heap.size w wr)) (fun i _ => len - (intOf i).toNat)
  case atStart => exact ⟨0, _, _, by omega, rfl, HT, HB2⟩
  case round =>
    obtain ⟨k, V, I, hk, rfl, HTk, HBk⟩ := hrel
    clear HT HB2
    by_cases hgo : k < len ∧ k < 200
    · obtain ⟨hkl, hk2⟩ := hgo
      obtain ⟨b, off, x, y, hA, cx, cy⟩ := HO.out k hkl
      replace cx := pw_cell_below HBk.out cx
      replace cy := pw_cell_below HBk.out cy
      subst hA
      have q1 : decide ((k : Int) < (len : Int)) = true := by simp; omega
      have q2 : decide ((k : Int) < 200) = true := by simp; omega
      have q3 : decide (k < len) = true := by simpa using hkl
      have q4 : decide (k < 200) = true := by simpa using hk2
      by_cases hx : x = 0 ∨ x = 1
      · rcases hx with rfl | rfl
        all_goals
          go_wp2_with fail
          refine (install_any _ _ _ _ HTk.out _).mono ?_
          rintro e w3 ⟨rfl, ht⟩
          have HT3 := Aside0.mk ht
          clear ht
          go_wp2_with fail
          go_roundw
          case rel => exact ⟨k + 1, _, _, by omega, by go_num, ⟨HT3.out.1⟩, ⟨Kept.below HBk.out HT3.out.2 HG.out (by have := HBk.out.size; omega)⟩⟩
          case measure => simp [intOf]; omega
      · have x0 : (x == 0) = false := by simp; omega
        have x1 : (x == 1) = false := by simp; omega
        clear hx
        go_wp2_with fail
        refine (close_any _ _ _ _ HTk.out _).mono ?_
        rintro e w3 ⟨rfl, ht⟩
        have HT3 := Aside0.mk ht
        clear ht
        go_wp2_with fail
        go_roundw
        case rel => exact ⟨k + 1, _, _, by omega, by go_num, ⟨HT3.out.1⟩, ⟨Kept.below HBk.out HT3.out.2 HG.out (by have := HBk.out.size; omega)⟩⟩
        case measure => simp [intOf]; omega
    · have hgo' : (decide ((k : Int) < (len : Int)) = false ∧ decide (k < len) = false) ∨ (decide ((k : Int) < (len : Int)) = true ∧ decide (k < len) = true ∧ decide ((k : Int) < 200) = false ∧ decide (k < 200) = false) := by
        by_cases h : k < len
        · exact .inr ⟨by simp; omega, by simpa using h, by simp; omega, by simp; omega⟩
        · exact .inl ⟨by simp; omega, by simp; omega⟩
      clear hgo hk
      rcases hgo' with ⟨q1, q2⟩ | ⟨q1, q2, q3, q4⟩
      all_goals
        clear HO hlen
        have hz := Aside0.mk HBk.out.size
        have gl := Aside0.mk HTk.out.lt
        have hO : Olds ((wr.alloc (.cells ((oldV V I 0).map (Value.int .i64)).toArray 43)).alloc (.cells ((oldI I 0).map Value.bool).toArray 44)) wr.heap.size (wr.heap.size + 1) V I 0 := by
          constructor
          · rw [(below_alloc (Below.refl _ (wr.alloc (.cells ((oldV V I 0).map (Value.int .i64)).toArray 43))) _).block _ (by simp)]
            exact blk_new wr _
          · have := blk_new (wr.alloc (.cells ((oldV V I 0).map (Value.int .i64)).toArray 43)) (.cells ((oldI I 0).map Value.bool).toArray 44)
            simpa using this
        have hT0 : Tab ((wr.alloc (.cells ((oldV V I 0).map (Value.int .i64)).toArray 43)).alloc (.cells ((oldI I 0).map Value.bool).toArray 44)) g V I := HTk.out.of_below (below_alloc (below_alloc (Below.refl _ _) _) _)
        have hB0 : Below w.heap.size w ((wr.alloc (.cells ((oldV V I 0).map (Value.int .i64)).toArray 43)).alloc (.cells ((oldI I 0).map Value.bool).toArray 44)) := below_alloc (below_alloc HBk.out _) _
        have hsz : ((wr.alloc (.cells ((oldV V I 0).map (Value.int .i64)).toArray 43)).alloc (.cells ((oldI I 0).map Value.bool).toArray 44)).heap.size = wr.heap.size + 1 + 1 := by simp
        have HOl := Aside0.mk hO
        have HT0 := Aside0.mk hT0
        have HB0 := Aside0.mk hB0
        have HSZ := Aside0.mk hsz
        clear hO hT0 hB0 hsz HTk HBk
        go_wp2_with fail
        try clear q1 q2
        try clear q3 q4
        obtain ⟨b8, hb8⟩ : ∃ b, b = wr.heap.size := ⟨_, rfl⟩
        rw [← hb8] at HOl gl HSZ
        rw [← hb8]
        have g8 : g < b8 := gl.out
        have HS0 := Aside0.mk (show w.heap.size ≤ b8 by rw [hb8]; exact hz.out)
        clear hb8 hz gl
        go_loopw [11, 10] (fun i m wq => ∃ j : Nat, j ≤ 16 ∧ i = .int .i64 j ∧ m = .int .i64 (numOf (I.take j)) ∧ Aside0 (Olds wq b8 (b8 + 1) V I j) ∧ Aside0 (Tab wq g V I) ∧ Aside0 (Below w.heap.size w wq)) (fun i _ _ => 16 - (intOf i).toNat)
        case atStart => exact ⟨0, by omega, rfl, rfl, HOl, HT0, HB0⟩
        case round =>
          clear HOl HT0 HB0 HSZ
          obtain ⟨j, hj, rfl, rfl, HOj, HTj, HBj⟩ := hrel
          have hn := num_le I j
          by_cases hlt : j < 16
          · have hsn := num_snoc I j (by rw [HTj.out.li]; exact hlt)
            have hnx := Aside0.mk (HOj.out.next hlt (by omega))
            obtain ⟨ov, hov⟩ := HOj.out.someV j hlt
            obtain ⟨oi, hoi⟩ := HOj.out.someI j hlt
            have hf8 : wr.frozen? ⟨b8, j, none⟩ = false := blk_frozen HOj.out.v j
            have hf9 : wr.frozen? ⟨b8 + 1, j, none⟩ = false := blk_frozen HOj.out.i j
            have hoi' : (wr.setCell ⟨b8, j, none⟩ (.int .i64 (gv V I j))).cell? ⟨b8 + 1, j, none⟩ = some (.bool oi) := by
              rw [World.cell?_setCell_other _ _ _ _ (by simp)]; exact hoi
            have hf9' : (wr.setCell ⟨b8, j, none⟩ (.int .i64 (gv V I j))).frozen? ⟨b8 + 1, j, none⟩ = false := by
              rw [blk_far_frozen]; exact hf9
            have HS := Aside0.mk hsn
            have HK : Aside0 (Tab ((wr.setCell ⟨b8, j, none⟩ (.int .i64 (gv V I j))).setCell ⟨b8 + 1, j, none⟩ (.bool (I.getD j false))) g V I ∧ Below w.heap.size w ((wr.setCell ⟨b8, j, none⟩ (.int .i64 (gv V I j))).setCell ⟨b8 + 1, j, none⟩ (.bool (I.getD j false)))) := by
              have k1 : Kept b8 wr (wr.setCell ⟨b8, j, none⟩ (.int .i64 (gv V I j))) := (Kept.refl _ _).set _ _
              have k2 : Kept (b8 + 1) (wr.setCell ⟨b8, j, none⟩ (.int .i64 (gv V I j))) ((wr.setCell ⟨b8, j, none⟩ (.int .i64 (gv V I j))).setCell ⟨b8 + 1, j, none⟩ (.bool (I.getD j false))) := (Kept.refl _ _).set _ _
              have z1 := HBj.out.size
              have z2 := k1.size
              exact ⟨(HTj.out.of_kept k1 (by omega)).of_kept k2 (by omega), Kept.below (Kept.below HBj.out k1 HS0.out z1) k2 (by have := HS0.out; omega) (by omega)⟩
            clear hsn
            generalize numOf (I.take j) = m at *
            generalize hbb : I.getD j false = b at *
            go_wp2_with fail
            refine (get_any _ _ _ _ HTj.out j hlt).mono ?_
            rintro e w3 ⟨rfl, rfl⟩
            rw [hbb]
            clear hbb
            cases b
            all_goals
              go_wp2_with fail
              go_roundw
              case rel => exact ⟨j + 1, by omega, by go_num, by rw [HS.out]; simp, hnx, ⟨HK.out.1⟩, ⟨HK.out.2⟩⟩
              case measure => simp [intOf]; omega
          · obtain rfl : j = 16 := by omega
            have hI16 : I.take 16 = I := List.take_of_length_le (by rw [HTj.out.li]; omega)
            rw [hI16]
            have hfs := free_spec I
            rw [HTj.out.li] at hfs
            have HIN := Aside0.mk (install_any _ _ _ _ HTj.out val)
            unfold inR inE inV inI at HIN
            have hna := num_all I
            rw [HTj.out.li] at hna
            clear hI16 hn
            by_cases hf : free I < 16
            · simp only [if_pos hf] at HIN
              have hnf : numOf I ≠ 16 := by omega
              have hsn := set_num I (free I) (by rw [HTj.out.li]; exact hf) (hfs.2.1 hf)
              have hfa := hfs.2.1 hf
              have HALL := Aside0.mk hfs.1
              have HSN := Aside0.mk hsn
              have HFA := Aside0.mk hfa
              have d16 : (((numOf I : Nat) : Int) == 16) = false := by simp; omega
              have hle : numOf I ≤ 16 := by have := num_le I 16; rw [List.take_of_length_le (by rw [HTj.out.li]; omega)] at this; exact this
              clear hna hfs hsn hfa hnf
              generalize free I = f at *
              have f0 : ¬ ((f : Int) < 0) := by omega
              have f0' : (0 : Int) ≤ (f : Int) := by omega
              have f1 : ¬ ((15 : Int) < (f : Int)) := by omega
              have f2 : (f : Int) < 16 := by omega
              go_wp2_with fail
              refine HIN.out.mono ?_
              rintro e w3 ⟨rfl, ht⟩
              have HT3 := Aside0.mk ht.1
              have HO3 := Aside0.mk (HOj.out.of_kept ht.2 (by omega) (by omega))
              have HB3 := Aside0.mk (Kept.below HBj.out ht.2 HG.out (by have := HBj.out.size; omega))
              clear HIN ht HOj HTj HBj
              have hcf := HO3.out.isAt f hf
              rw [HFA.out] at hcf
              go_wp2_with fail
              go_loopw [16] (fun i wq => ∃ j : Nat, j ≤ 16 ∧ i = .int .i64 j ∧ wq = w3) (fun i _ => 16 - (intOf i).toNat)
              case atStart => exact ⟨0, by omega, rfl, rfl⟩
              case round =>
                obtain ⟨j, hj, rfl, rfl⟩ := hrel
                by_cases hlt : j < 16
                · have hvj := HO3.out.valAt j hlt
                  have hij := HO3.out.isAt j hlt
                  have j0 : (0 : Int) ≤ (j : Int) := by omega
                  have j1 : (j : Int) < 16 := by omega
                  have HGJ := Aside0.mk (get_any _ _ _ _ HT3.out j hlt)
                  by_cases hjf : j = f
                  · subst hjf
                    have e1 : (I.set j true).getD j false = true := by have := HT3.out.li; simp at this; simp [List.getD_eq_getElem?_getD, List.getElem?_set, this, hlt]
                    have e2 : gv (V.set j val) (I.set j true) j = val := by
                      unfold gv; rw [e1, if_pos rfl]
                      have := HT3.out.lv
                      simp at this
                      simp [List.getD_eq_getElem?_getD, List.getElem?_set, this, hlt]
                    rw [e1, e2] at HGJ
                    clear e1 e2
                    go_wp2_with fail
                    refine HGJ.out.mono ?_
                    rintro e w4 ⟨rfl, rfl⟩
                    go_wp2_with fail
                    go_roundw
                    case rel => exact ⟨j + 1, by omega, by go_num, by first | rfl | trivial⟩
                    case measure => simp [intOf]; omega
                  · have hfj : ¬ f = j := fun h => hjf h.symm
                    have e1 : (I.set f true).getD j false = I.getD j false := by simp [List.getD_eq_getElem?_getD, List.getElem?_set, hfj]
                    have e2 : gv (V.set f val) (I.set f true) j = gv V I j := by
                      unfold gv; rw [e1]
                      have : (V.set f val).getD j 0 = V.getD j 0 := by simp [List.getD_eq_getElem?_getD, List.getElem?_set, hfj]
                      rw [this]
                    rw [e1, e2] at HGJ
                    clear e1 e2
                    have d1 : ((j : Int) == (f : Int)) = false := by simp; omega
                    have d2 : ((j : Int) != (f : Int)) = true := by simp; omega
                    by_cases hjl : j < f
                    · rw [HALL.out j hjl] at HGJ hij
                      have d3 : decide ((j : Int) < (f : Int)) = true := by simp; omega
                      have d4 : decide (j < f) = true := by simpa using hjl
                      go_wp2_with fail
                      refine HGJ.out.mono ?_
                      rintro e w4 ⟨rfl, rfl⟩
                      go_wp2_with fail
                      go_roundw
                      case rel => exact ⟨j + 1, by omega, by go_num, by first | rfl | trivial⟩
                      case measure => simp [intOf]; omega
                    · have d3 : decide ((j : Int) < (f : Int)) = false := by simp; omega
                      have d4 : decide (j < f) = false := by simpa using hjl
                      go_wp2_with fail
                      refine HGJ.out.mono ?_
                      rintro e w4 ⟨rfl, rfl⟩
                      go_wp2_with fail
                      go_roundw
                      case rel => exact ⟨j + 1, by omega, by go_num, by first | rfl | trivial⟩
                      case measure => simp [intOf]; omega
                · have HL := Aside0.mk (len_is _ _ _ _ HT3.out)
                  rw [HSN.out] at HL
                  have en : (((numOf I + 1 : Nat) : Int)) = (numOf I : Int) + 1 := by omega
                  rw [en] at HL
                  clear en
                  obtain rfl : j = 16 := by omega
                  go_wp2_with fail
                  refine HL.out.mono ?_
                  rintro e w4 ⟨rfl, rfl⟩
                  go_wp2_with fail
                  go_ret
                  exact ⟨by first | rfl | simp, HB3.out⟩
            · simp only [if_neg hf] at HIN
              have hnf : numOf I = 16 := by omega
              have HL := fun (W : World) (h : Tab W g V I) => Aside0.mk (len_is W _ _ _ h)
              rw [hnf]
              simp only [hnf] at HL
              clear hna hfs hnf
              go_wp2_with fail
              refine HIN.out.mono ?_
              rintro e w3 ⟨rfl, ht⟩
              have HT3 := Aside0.mk ht.1
              have HB3 := Aside0.mk (Kept.below HBj.out ht.2 HG.out (by have := HBj.out.size; omega))
              clear HIN ht HOj HTj HBj
              have HL2 := HL w3 HT3.out
              clear HL
              go_wp2_with fail
              refine HL2.out.mono ?_
              rintro e w4 ⟨rfl, rfl⟩
              go_wp2_with fail
              go_ret
              exact ⟨by first | rfl | simp, HB3.out⟩
end Go.Proofs.Ytlohaefhigbdjaa.Fds
