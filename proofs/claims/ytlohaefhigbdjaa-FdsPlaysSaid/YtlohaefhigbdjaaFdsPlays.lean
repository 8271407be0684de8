/- FdsPlays: its walk. -/
import Derived.Test.YtlohaefhigbdjaaFdsRef3
import Derived.Test.YtlohaefhigbdjaaFdsPure
namespace Go.Proofs.Ytlohaefhigbdjaa.Fds
open Go.RowKit Go.Proofs.YtlohaefhigbdjaaW.PrintWords Go.Proofs.YtlohaefhigbdjaaW.PrintLast Go.Proofs.YtlohaefhigbdjaaW.PrintMore
set_option linter.unusedVariables false
set_option linter.unusedSimpArgs false

theorem below_trans {B : Nat} {a b c : World} (h : Below B a b) (k : Below B b c) : Below B a c :=
  ⟨k.os.trans h.os, k.tape.trans h.tape, k.output.trans h.output, Nat.le_trans h.size k.size, fun i hi => (k.block i hi).trans (h.block i hi)⟩
def rF (F : List Int) (x : Int) : List Int := if rI F x = true then F.take (at_ F x) ++ F.drop (at_ F x + 1) else F
def rL (F L : List Int) (x : Int) : List Int := if rI F x = true then L.take (at_ F x) ++ L.drop (at_ F x + 1) else L

set_option maxHeartbeats 8000000 in
set_option maxRecDepth 100000 in
theorem rclose_not (w : World) (B r : Nat) (g : Nat → Prop) (F L : List Int) (x : Int) (h : Ref w B r g F L) (hi : rI F x = false) :
    Calls Try.prog 18 #[.pointer (some ⟨r, 0, none⟩), .int .i64 x] w fun e w' => e = .returned (.int .i64 17) ∧ w = w' := by
  obtain ⟨vF, vV, hra, hlen, hsm⟩ := h
  have hsp := at_spec F x
  have him : at_ F x = F.length := by
    have : ¬ at_ F x < F.length := by simpa [rI] using hi
    omega
  rw [him] at hsp
  have HS := Aside0.mk hsp
  have k0 := hra.cell0
  obtain ⟨A, c, e⟩ := Kd.R_slice hra.f
  subst e
  have HC1 := Aside0.mk (Kd.R_reads' hra.f).2.2
  have HSM := Aside0.mk hsm
  clear hra hlen hsm hsp him hi
  obtain ⟨n, hn⟩ : ∃ n, n = F.length := ⟨_, rfl⟩
  have HN := Aside0.mk hn
  have q10 : n ≤ 20 := by have := HSM.out; omega
  rw [← hn] at k0
  clear hn
  go_enter Try.func18, Try.ntmps18
  go_wp2_with fail
  go_loop [5] (fun i => ∃ k : Nat, k ≤ n ∧ i = .int .i64 k) (fun i => n + 1 - (intOf i).toNat)
  case atStart => exact ⟨0, by omega, rfl⟩
  case round =>
    obtain ⟨k, hk, rfl⟩ := hrel
    by_cases hkn : k < n
    · have q0 : (0 : Int) ≤ (k : Int) := by omega
      have q1 : (k : Int) < (n : Int) := by omega
      obtain ⟨ad, e, hc⟩ := Kd.at_int HC1.out (k : Int) q0 (by have := HN.out; omega)
      cases e
      simp only [Int.toNat_natCast] at hc
      have hne := HS.out.1 k (by have := HN.out; omega)
      have e1 : (rd F (k : Int) == x) = false := by simpa [rd] using hne
      generalize rd F (k : Int) = y at *
      go_wp2_with fail
      go_round
      case rel => exact ⟨k + 1, by omega, by go_num⟩
      case measure => simp [intOf]; omega
    · obtain rfl : k = n := by omega
      go_wp2_with fail
      go_ret
      exact ⟨rfl, rfl⟩
theorem rclose_any (w : World) (B r : Nat) (g : Nat → Prop) (F L : List Int) (x : Int) (h : Ref w B r g F L) (hB : B ≤ w.heap.size) :
    Calls Try.prog 18 #[.pointer (some ⟨r, 0, none⟩), .int .i64 x] w fun e w' => e = .returned (.int .i64 (if rI F x = true then 0 else 17)) ∧ RTurned w B r g (rF F x) (rL F L x) w' := by
  unfold rF rL
  by_cases hi : rI F x = true
  · simp only [if_pos hi]
    exact rclose_in w B r g F L x h hB hi
  · simp only [if_neg hi]
    refine (rclose_not w B r g F L x h (by simpa using hi)).mono ?_
    rintro e w' ⟨he, rfl⟩
    exact ⟨he, h, Below.refl _ _, fun _ _ => rfl⟩
theorem Ref.widen {w w' : World} {B r : Nat} {g g' : Nat → Prop} {F L : List Int} (h : Ref w B r g F L) (k : Below w.heap.size w w') (hg : ∀ j, g' j → g j ∨ w.heap.size ≤ j) (hl' : ∀ j, g' j → j < w'.heap.size) : Ref w' B r g' F L := by
  obtain ⟨vF, vV, h, hl, hs⟩ := h
  have hh : ∀ j, j < w.heap.size → ¬ g j → ¬ g' j := fun j hj hn hc => by
    rcases hg j hc with h1 | h1
    · exact hn h1
    · omega
  refine ⟨vF, vV, ⟨(k.block r h.lt).trans h.blk, ?_, ?_, h.br, hh r h.lt h.gr, hl'⟩, hl, hs⟩
  · exact Kd.R_below (Kd.R_mono (Kd.R_bound h.f) (fun j hj => ⟨hj.1.1, hh j hj.2.2.1 hj.1.2.1, hj.1.2.2⟩)) k
  · exact Kd.R_below (Kd.R_mono (Kd.R_bound h.v) (fun j hj => ⟨hj.1.1, hh j hj.2.2.1 hj.1.2.1, hj.1.2.2⟩)) k

/-- Both closes tell the same, and what they leave is alike. -/
theorem Like.closes {V : List Int} {I : List Bool} {F L : List Int} (h : Like V I F L) (x : Int) : (if rI F x = true then (0 : Int) else 17) = clE I x ∧ Like (clV V I x) (clI I x) (rF F x) (rL F L x) := by
  have key : rI F x = has I x := by
    unfold has
    by_cases hx : 0 ≤ x ∧ x < 16
    · obtain ⟨k, rfl⟩ := Int.eq_ofNat_of_zero_le hx.1
      rw [(h.get k (by omega)).1]
      have e2 : (k : Int) < 16 := by omega
      simp [e2]
    · rw [(h.out x (by omega)).1]
      have : ¬ (0 ≤ x ∧ x < 16) := hx
      by_cases h0 : 0 ≤ x
      · have : ¬ x < 16 := by omega
        simp [this]
      · simp [h0]
  unfold clE clV clI rF rL
  rw [key]
  refine ⟨rfl, ?_⟩
  by_cases hh : has I x = true
  · rw [if_pos hh, if_pos hh, if_pos hh, if_pos hh]
    have hl := has_lt hh
    obtain ⟨k, rfl⟩ := Int.eq_ofNat_of_zero_le hl.1
    exact h.close k (by omega) (by simpa using hl.2.2)
  · rw [if_neg hh, if_neg hh, if_neg hh, if_neg hh]
    exact h
/-- What an install leaves of the document's table. -/
def iF (I : List Bool) (F : List Int) : List Int := if free I < 16 then F ++ [(free I : Int)] else F
def iL (I : List Bool) (L : List Int) (val : Int) : List Int := if free I < 16 then L ++ [val] else L
theorem Like.installs {V : List Int} {I : List Bool} {F L : List Int} (h : Like V I F L) (val : Int) : Like (inV V I val) (inI I) (iF I F) (iL I L val) := by
  unfold inV inI iF iL
  by_cases hf : free I < 16
  · rw [if_pos hf, if_pos hf, if_pos hf, if_pos hf]; exact h.install val hf
  · rw [if_neg hf, if_neg hf, if_neg hf, if_neg hf]; exact h
theorem rinstall_any (w : World) (B r : Nat) (g : Nat → Prop) (V : List Int) (I : List Bool) (F L : List Int) (hl : Like V I F L) (val : Int) (h : Ref w B r g F L) (hB : B ≤ w.heap.size) :
    Calls Try.prog 17 #[.pointer (some ⟨r, 0, none⟩), .int .i64 val] w fun e w' => e = .returned (.tuple #[.int .i64 (inR I), .int .i64 (inE I)]) ∧ RTurned w B r g (iF I F) (iL I L val) w' := by
  have hs := free_spec I
  rw [hl.li] at hs
  unfold inR inE iF iL
  by_cases hf : free I < 16
  · simp only [if_pos hf]
    have hF : F.length < 16 := by
      rw [← hl.num]
      have h1 := num_all I
      have h2 := num_le16 hl.li
      rw [hl.li] at h1
      omega
    exact rinstall_in w B r g F L val h hB hF (free I) hf (by rw [(hl.get _ hf).1]; exact hs.2.1 hf) (fun j hj => by rw [(hl.get j (by omega)).1]; exact hs.1 j hj)
  · simp only [if_neg hf]
    refine (rinstall_full w B r g F L val h (fun j hj => by rw [(hl.get j hj).1]; exact hs.1 j (by omega))).mono ?_
    rintro e w' ⟨he, rfl⟩
    exact ⟨he, h, Below.refl _ _, fun _ _ => rfl⟩
theorem get_like (w : World) (g : Nat) (V : List Int) (I : List Bool) (F L : List Int) (ht : Tab w g V I) (hl : Like V I F L) (k : Int) :
    Calls Try.prog 13 #[.pointer (some ⟨g, 0, none⟩), .int .i64 k] w fun e w' => e = .returned (.tuple #[.int .i64 (rV F L k), .bool (rI F k)]) ∧ w = w' := by
  by_cases hk : 0 ≤ k ∧ k < 16
  · obtain ⟨n, rfl⟩ := Int.eq_ofNat_of_zero_le hk.1
    rw [(hl.get n (by omega)).1, (hl.get n (by omega)).2]
    exact get_any w g V I ht n (by omega)
  · rw [(hl.out k (by omega)).1, (hl.out k (by omega)).2]
    exact get_out w g k (by omega)

/-- Both tables, alike, in one world. -/
structure Both (w : World) (B g r : Nat) (V : List Int) (I : List Bool) (F L : List Int) : Prop where
  t : Tab w g V I
  r : Ref w B r (fun k => k = g) F L
  like : Like V I F L
  bg : B ≤ g
def BothAny (w : World) (B g r : Nat) : Prop := ∃ V I F L, Both w B g r V I F L

/-- Between the two closes: where everything lies. -/
structure Mid (w0 : World) (B g r bx : Nat) (y : Int) (W : World) (V : List Int) (I : List Bool) (F L : List Int) : Prop where
  t : Tab W g V I
  r : Ref W B r (fun k => k = g ∨ k = bx) F L
  b : Below B w0 W
  c : W.cell? ⟨bx, 1, none⟩ = some (.int .i64 y)
theorem Mid.drew {w0 W : World} {B g r bx : Nat} {y : Int} {V : List Int} {I : List Bool} {F L : List Int} (h : Mid w0 B g r bx y W V I F L) : Mid w0 B g r bx y W.drew V I F L :=
  ⟨h.t.drew, h.r.of_below (below_drew (Below.refl _ _)), below_drew h.b, h.c⟩
theorem Mid.lt {w0 W : World} {B g r bx : Nat} {y : Int} {V : List Int} {I : List Bool} {F L : List Int} (h : Mid w0 B g r bx y W V I F L) : bx < W.heap.size := World.block_lt_of_cell? _ _ h.c
theorem mid_close {w0 W : World} {B g r bx : Nat} {y : Int} {V : List Int} {I : List Bool} {F L : List Int} (h : Mid w0 B g r bx y W V I F L) (hB : B ≤ w0.heap.size) (hg : B ≤ g) (hx : bx ≠ g) :
    Calls Try.prog 15 #[.pointer (some ⟨g, 0, none⟩), .int .i64 y] W fun e w' => e = .returned (.int .i64 (clE I y)) ∧ Mid w0 B g r bx y w' (clV V I y) (clI I y) F L :=
  (close_any W g V I h.t y).mono fun e w' ⟨he, ht⟩ => ⟨he, ht.1, h.r.of_kept ht.2 (.inl rfl), Kept.below h.b ht.2 hg (by have := h.b.size; omega), by rw [World.cell?_of_block (ht.2.block bx h.lt hx)]; exact h.c⟩
theorem mid_rclose {w0 W : World} {B g r bx : Nat} {y : Int} {V : List Int} {I : List Bool} {F L : List Int} (h : Mid w0 B g r bx y W V I F L) (hB : B ≤ w0.heap.size) (z : Int) (hz : (if rI F y = true then (0 : Int) else 17) = z) :
    Calls Try.prog 18 #[.pointer (some ⟨r, 0, none⟩), .int .i64 y] W fun e w' => e = .returned (.int .i64 z) ∧ Mid w0 B g r bx y w' V I (rF F y) (rL F L y) := by
  have hBW : B ≤ W.heap.size := by have := h.b.size; omega
  refine (rclose_any W B r _ F L y h.r hBW).mono fun e w' ⟨he, hr⟩ => ⟨by rw [he, hz], ⟨(hr.2.2 g (.inl rfl)).trans h.t.blk, h.t.lv, h.t.li⟩, hr.1, below_trans h.b hr.2.1, by rw [World.cell?_of_block (hr.2.2 bx (.inr rfl))]; exact h.c⟩

set_option maxHeartbeats 16000000 in
set_option maxRecDepth 100000 in
theorem does_is (w : World) (B g r : Nat) (x y : Int) (h : BothAny w B g r) (hB : B ≤ w.heap.size) :
    Calls Try.prog 12 #[.pointer (some ⟨g, 0, none⟩), .pointer (some ⟨r, 0, none⟩), .agg #[.int .i64 x, .int .i64 y]] w fun e w' => e = .returned (.bool true) ∧ Aside0 (BothAny w' B g r ∧ Below B w w') := by
  obtain ⟨V, I, F, L, h⟩ := h
  have HBB := Aside0.mk hB
  have HT0 := Aside0.mk (h.t.of_below (below_alloc (Below.refl _ w) (.cells #[.int .i64 x, .int .i64 y] 35)))
  have HR0 : Aside0 (Ref (w.alloc (.cells #[.int .i64 x, .int .i64 y] 35)) B r (fun k => k = g ∨ k = w.heap.size) F L) :=
    ⟨h.r.widen (below_alloc (Below.refl _ w) _) (fun j hj => by rcases hj with e | e; exact .inl e; exact .inr (by omega)) (fun j hj => by
      have := h.t.lt
      rcases hj with e | e
      · subst e; simp; omega
      · subst e; simp)⟩
  have HL := Aside0.mk h.like
  have HG := Aside0.mk (show B ≤ g ∧ g < w.heap.size from ⟨h.bg, h.t.lt⟩)
  have HB0 := Aside0.mk ((Below.refl B w).alloc hB (.cells #[.int .i64 x, .int .i64 y] 35))
  have HN : Aside0 (∀ W : World, Ref W B r (fun k => k = g ∨ k = w.heap.size) (iF I F) (iL I L y) → Tab W g (inV V I y) (inI I) → BothAny W B g r) :=
    ⟨fun W h1 h2 => ⟨_, _, _, _, h2, h1.other (fun k hk => .inl (.inl hk)) (fun k hk => by subst hk; exact h2.lt), h.like.installs y, h.bg⟩⟩
  have HC : Aside0 (∀ W : World, Ref W B r (fun k => k = g ∨ k = w.heap.size) (rF F y) (rL F L y) → Tab W g (clV V I y) (clI I y) → BothAny W B g r) :=
    ⟨fun W h1 h2 => ⟨_, _, _, _, h2, h1.other (fun k hk => .inl (.inl hk)) (fun k hk => by subst hk; exact h2.lt), (h.like.closes y).2, h.bg⟩⟩
  clear h hB
  have hbx : w.heap.size ≠ g := by have := HG.out; omega
  by_cases hx : x = 0 ∨ x = 1
  · rcases hx with rfl | rfl
    all_goals
      go_enter Try.func12, Try.ntmps12
      go_wp2_with fail
      refine (install_any _ _ _ _ HT0.out _).mono ?_
      rintro e w1 ⟨rfl, ht⟩
      have HT1 := Aside0.mk ht.1
      have HR1 := Aside0.mk (HR0.out.of_kept ht.2 (.inl rfl))
      have HB1 := Aside0.mk (Kept.below HB0.out ht.2 HG.out.1 (by have := HBB.out; simp; omega))
      have hcell : w1.cell? ⟨w.heap.size, 1, none⟩ = some (.int .i64 y) := by
        have e1 := ht.2.block w.heap.size (by simp) hbx
        rw [World.cell?_of_block e1]
        simp
      clear ht hbx
      go_wp2_with fail
      refine (rinstall_any _ _ _ _ _ _ _ _ HL.out _ HR1.out (by have := HBB.out; have := HB1.out.size; omega)).mono ?_
      rintro e w2 ⟨rfl, ht⟩
      have HF := Aside0.mk (HN.out _ ht.1 ⟨(ht.2.2 g (.inl rfl)).trans HT1.out.blk, HT1.out.lv, HT1.out.li⟩)
      have HB2 := Aside0.mk (below_trans HB1.out ht.2.1)
      clear ht
      go_wp2_with fail
      go_ret
      exact ⟨by first | rfl | simp, ⟨HF.out, HB2.out⟩⟩
  · have x0 : (x == 0) = false := by simp; omega
    have x1 : (x == 1) = false := by simp; omega
    clear hx
    have HE := Aside0.mk (HL.out.closes y).1
    have hcell0 : (w.alloc (.cells #[.int .i64 x, .int .i64 y] 35)).cell? ⟨w.heap.size, 1, none⟩ = some (.int .i64 y) := by simp
    have HI0 : Aside0 (Mid w B g r w.heap.size y (w.alloc (.cells #[.int .i64 x, .int .i64 y] 35)) V I F L) := ⟨⟨HT0.out, HR0.out, HB0.out, hcell0⟩⟩
    have HNE := Aside0.mk hbx
    clear hcell0 HT0 HR0 HB0 HN hbx
    go_enter Try.func12, Try.ntmps12
    go_wp2_with fail
    go_region_held3 (fun w' => w'.cell? ⟨w.heap.size, 1, none⟩ = some (.int .i64 y))
      (first | exact H18.out.c | exact H15.out.c | exact HI0.out.c | assumption | go_keep)
      (first
        | (go_at_call 15; refine (mid_close (w0 := w) (B := B) (g := g) (r := r) (bx := w.heap.size) (y := y) (V := V) (I := I) (F := F) (L := L) ?hi HBB.out HG.out.1 HNE.out).mono ?_; (case hi => first | exact HI0.out.drew | exact HI0.out); rintro e w1 ⟨rfl, h15⟩; have H15 := Aside0.mk h15; clear h15)
        | (go_at_call 18; refine (mid_rclose (w0 := w) (B := B) (g := g) (r := r) (bx := w.heap.size) (y := y) (V := clV V I y) (I := clI I y) (F := F) (L := L) ?hi HBB.out (clE I y) HE.out).mono ?_; (case hi => first | exact H15.out.drew | exact H15.out); rintro e w2 ⟨rfl, h18⟩; have H18 := Aside0.mk h18; clear h18))
    all_goals
      go_wp2
      go_ret
      first
        | exact ⟨by first | rfl | simp, ⟨HC.out _ H18.out.r H18.out.t, H18.out.b⟩⟩
        | exact ⟨by first | rfl | simp, ⟨HC.out _ H18.out.drew.r H18.out.drew.t, H18.out.drew.b⟩⟩

set_option maxHeartbeats 16000000 in
set_option maxRecDepth 100000 in
theorem plays_any (A : Option Addr) (len cap : Nat) (w : World) (ho : OpsRow w A len) :
    Calls Try.prog 4 #[.slice A len cap] w fun e w' => e = .returned (.bool true) ∧ Below w.heap.size w w' := by
  have hlen := ho.1
  have HO := Aside0.mk ho.2
  clear ho
  go_enter Try.func4, Try.ntmps4
  go_wp2_with fail
  refine (awake_is _).mono ?_
  rintro e w1 ⟨rfl, hb⟩
  have HB := Aside0.mk hb
  clear hb
  go_wp2_with fail
  refine (new_is _).mono ?_
  rintro e w2 ⟨rfl, hb, ht⟩
  have HB2 := Aside0.mk (below_then HB.out (below_size HB.out) hb)
  have HT := Aside0.mk ht
  have hz := Aside0.mk HB.out.size
  obtain ⟨g, hg⟩ : ∃ g, g = w1.heap.size := ⟨_, rfl⟩
  rw [← hg]
  rw [← hg] at HT
  have HG := Aside0.mk (show w.heap.size ≤ g by rw [hg]; exact hz.out)
  clear hb ht hg hz
  go_wp2_with fail
  refine (rnew_is _ w.heap.size (fun k => k = g) HB2.out.size (fun k hk => by subst hk; exact HT.out.lt)).mono ?_
  rintro e w3 ⟨rfl, hb, hr⟩
  obtain ⟨r, hr0⟩ : ∃ r, r = w2.heap.size + 1 + 1 := ⟨_, rfl⟩
  rw [← hr0] at hr ⊢
  have HW : Aside0 (BothAny w3 w.heap.size g r ∧ Below w.heap.size w w3) := ⟨⟨V0, I0, [0, 1, 2], [0, 1, 2], HT.out.of_below hb, hr, like0, HG.out⟩, below_then HB2.out HB2.out.size hb⟩
  clear hb hr hr0 HT HB HB2
  go_wp2_with fail
  go_loopw [6] (fun i wr => ∃ k : Nat, k ≤ len ∧ i = .int .i64 k ∧ Aside0 (BothAny wr w.heap.size g r ∧ Below w.heap.size w wr)) (fun i _ => len - (intOf i).toNat)
  case atStart => exact ⟨0, by omega, rfl, HW⟩
  case round =>
    obtain ⟨k, hk, rfl, HWk⟩ := hrel
    clear HW
    by_cases hgo : k < len ∧ k < 200
    · obtain ⟨hkl, hk2⟩ := hgo
      obtain ⟨b, off, x, y, hA, cx, cy⟩ := HO.out k hkl
      replace cx := pw_cell_below HWk.out.2 cx
      replace cy := pw_cell_below HWk.out.2 cy
      subst hA
      have q1 : decide ((k : Int) < (len : Int)) = true := by simp; omega
      have q2 : decide ((k : Int) < 200) = true := by simp; omega
      have q3 : decide (k < len) = true := by simpa using hkl
      have q4 : decide (k < 200) = true := by simpa using hk2
      go_wp2_with fail
      refine (does_is _ w.heap.size g r x y HWk.out.1 HWk.out.2.size).mono ?_
      rintro e w4 ⟨rfl, HX⟩
      obtain ⟨V, I, F, L, hbo⟩ := HX.out.1
      have HBO := Aside0.mk hbo
      have HXB := Aside0.mk (below_trans HWk.out.2 HX.out.2)
      obtain ⟨vF, vV, hra, hfl, hfs⟩ := hbo.r
      have k0 := hra.cell0
      obtain ⟨AF, cF, eF⟩ := Kd.R_slice hra.f
      subst eF
      have hnum := hbo.like.num
      rw [← hnum] at k0
      have HLN : Aside0 (∀ m, Calls Try.prog 10 #[.pointer (some ⟨g, 0, none⟩)] (w4.drewN m) fun e w' => e = .returned (.int .i64 (numOf I)) ∧ w4.drewN m = w') := ⟨fun m => len_is _ g V I (hbo.t.drewN m)⟩
      generalize numOf I = nn at *
      clear hbo hra hfl hfs hnum cx cy HWk
      go_wp2_with fail
      go_quiet ((go_at_call 10; exact Calls.quiet_of_same ((HLN.out _).mono fun _ _ ⟨he, hw⟩ => ⟨he, hw.symm⟩)))
      have HR : Aside0 (∀ m x, Calls Try.prog 14 #[.pointer (some ⟨r, 0, none⟩), .int .i64 x] (w4.drewN m) fun e w' => e = .returned (.tuple #[.int .i64 (rV F L x), .bool (rI F x)]) ∧ w4.drewN m = w') :=
        ⟨fun m x => rget_is _ w.heap.size r (fun k => k = g) F L x (HBO.out.r.of_below (pw_below_drewN (Below.refl _ _) m))⟩
      have HGT : Aside0 (∀ m x, Calls Try.prog 13 #[.pointer (some ⟨g, 0, none⟩), .int .i64 x] (w4.drewN m) fun e w' => e = .returned (.tuple #[.int .i64 (rV F L x), .bool (rI F x)]) ∧ w4.drewN m = w') :=
        ⟨fun m x => get_like _ g V I F L (HBO.out.t.drewN m) HBO.out.like x⟩
      have HEND : Aside0 (∀ m, BothAny (w4.drewN m) w.heap.size g r ∧ Below w.heap.size w (w4.drewN m)) :=
        ⟨fun m => ⟨⟨V, I, F, L, HBO.out.t.drewN m, HBO.out.r.of_below (pw_below_drewN (Below.refl _ _) m), HBO.out.like, HBO.out.bg⟩, pw_below_drewN HXB.out m⟩⟩
      clear k0 HX HBO HXB HLN
      go_wp2_with fail
      go_loopw [8] (fun i wq => ∃ x : Int, -1 ≤ x ∧ x ≤ 17 ∧ i = .int .i64 x ∧ Aside0 (∃ m, wq = w4.drewN m)) (fun i _ => (17 - intOf i).toNat)
      case atStart => exact ⟨-1, by omega, by omega, rfl, ⟨⟨_, rfl⟩⟩⟩
      case round =>
        obtain ⟨x, hx0, hx1, rfl, hm⟩ := hrel
        obtain ⟨m, rfl⟩ := hm.out
        clear hm
        by_cases hx : x ≤ 16
        · go_wp2_with fail
          refine (HGT.out m x).mono ?_
          rintro e w5 ⟨rfl, rfl⟩
          go_wp2_with fail
          refine (HR.out m x).mono ?_
          rintro e w6 ⟨rfl, rfl⟩
          go_wp2_with fail
          go_roundw
          case rel => exact ⟨x + 1, by omega, by omega, by go_num, ⟨⟨m, rfl⟩⟩⟩
          case measure => simp [intOf]; omega
        · go_wp2_with fail
          go_roundw
          case rel => exact ⟨k + 1, by omega, by go_num, ⟨HEND.out m⟩⟩
          case measure => simp [intOf]; omega
    · have hgo' : (decide ((k : Int) < (len : Int)) = false ∧ decide (k < len) = false) ∨ (decide ((k : Int) < (len : Int)) = true ∧ decide (k < len) = true ∧ decide ((k : Int) < 200) = false ∧ decide (k < 200) = false) := by
        by_cases h : k < len
        · exact .inr ⟨by simp; omega, by simpa using h, by simp; omega, by simp; omega⟩
        · exact .inl ⟨by simp; omega, by simp; omega⟩
      clear hgo hk
      rcases hgo' with ⟨q1, q2⟩ | ⟨q1, q2, q3, q4⟩
      all_goals
        go_wp2_with fail
        go_ret
        exact ⟨by first | rfl | simp, HWk.out.2⟩
end Go.Proofs.Ytlohaefhigbdjaa.Fds
