/- Frames one behind the other: the plain law; rows of slices as they lie. -/
import Derived.Test.YtpkgpapdmjapmaaFrCounts
import Derived.Test.YtpkgpapdmjapmaaFrAlike
namespace Go.Proofs.Ytpkgpapdmjapmaa.Pure
open Go.RowKit Go.Proofs.YtpkgpapdmjapmaaW.PrintWords Go.Proofs.YtpkgpapdmjapmaaW.PrintLast Go.Proofs.YtpkgpapdmjapmaaW.PrintMore Go.Proofs.Ytpkgpapdmjapmaa.SumMath Go.Proofs.Ytpkgpapdmjapmaa.Fns
set_option linter.unusedVariables false
set_option linter.unusedSimpArgs false

def fits (b : List Int) : Bool := decide (1 ≤ b.length) && decide (b.length ≤ 512)
theorem nx_mk (b R : List Int) (hb : Bytes b) (hf : fits b = true) : nx (mk b ++ R) = (some b, R, 0) := by
  unfold fits at hf
  simp only [Bool.and_eq_true, decide_eq_true_eq] at hf
  have hs := sumv_range b
  have hbm : Bytes (mk b) := mk_bytes b hb
  obtain ⟨c, hc⟩ : ∃ c, ((b.length : Int) / 256) % 256 = c := ⟨_, rfl⟩
  obtain ⟨d, hd⟩ : ∃ d, (b.length : Int) % 256 = d := ⟨_, rfl⟩
  obtain ⟨e4, h4⟩ : ∃ e, (sumv b / 16777216) % 256 = e := ⟨_, rfl⟩
  obtain ⟨e5, h5⟩ : ∃ e, (sumv b / 65536) % 256 = e := ⟨_, rfl⟩
  obtain ⟨e6, h6⟩ : ∃ e, (sumv b / 256) % 256 = e := ⟨_, rfl⟩
  obtain ⟨e7, h7⟩ : ∃ e, (sumv b) % 256 = e := ⟨_, rfl⟩
  have em : mk b ++ R = 102 :: 76 :: c :: d :: e4 :: e5 :: e6 :: e7 :: (b ++ R) := by
    unfold mk
    rw [hc, hd, h4, h5, h6, h7]
    rfl
  have hlen : (mk b ++ R).length = 8 + b.length + R.length := by rw [List.length_append, mk_length]
  have hN : tN (mk b ++ R) = (b.length : Int) := by
    rw [tN_is _ (by rw [em, rd_2]; omega) (by rw [em, rd_3]; omega), em, rd_2, rd_3]
    omega
  have hn : nn (mk b ++ R) = b.length := by unfold nn; rw [hN]; omega
  have hS : tS (mk b ++ R) = sumv b := by
    have := tS_is (mk b ++ R) (by rw [em]; show 0 ≤ e4 ∧ e4 ≤ 255; omega) (by rw [em]; show 0 ≤ e5 ∧ e5 ≤ 255; omega) (by rw [em]; show 0 ≤ e6 ∧ e6 ≤ 255; omega) (by rw [em]; show 0 ≤ e7 ∧ e7 ≤ 255; omega)
    rw [this, em]
    show e4 * 16777216 + e5 * 65536 + e6 * 256 + e7 = _
    omega
  have hB : bodyAt (mk b ++ R) (nn (mk b ++ R)) = b := by
    rw [hn, em]
    unfold bodyAt
    rw [show 8 + b.length = b.length + 8 by omega]
    simp
  have hD : (mk b ++ R).drop (8 + b.length) = R := by
    rw [em, show 8 + b.length = b.length + 8 by omega]
    simp
  have hG : bgn (mk b ++ R) = true := by
    rw [em]
    show decide ((102 : Int) = 102 ∧ (76 : Int) = 76 ∧ c ≤ 2 ∧ 1 ≤ c * 256 + d ∧ c * 256 + d ≤ 512) = true
    rw [decide_eq_true_eq]
    refine ⟨rfl, rfl, ?_, ?_, ?_⟩ <;> omega
  rw [nx_found (mk b ++ R) (by rw [em]; simp) hG (by omega) (by rw [hn]; omega) (by rw [hB, hS]), hB, hn, hD]
theorem drn_mks : ∀ (l : List (List Int)) (f : Nat), l.length < f → (∀ b ∈ l, Bytes b ∧ fits b = true) → drn f (l.flatMap mk) = (l, [], 0)
  | [], f + 1, _, _ => by
    rw [drn_none f _ (by rw [List.flatMap_nil, nx])]
    rw [List.flatMap_nil, nx]
  | b :: l, f + 1, hf, h => by
    have e := nx_mk b (l.flatMap mk) (h b (by simp)).1 (h b (by simp)).2
    rw [List.flatMap_cons, drn_some f _ b (by rw [e]), e]
    simp only [drn_mks l f (by simpa using hf) (fun x hx => h x (List.mem_cons_of_mem _ hx))]
theorem mks_bytes : ∀ (l : List (List Int)), (∀ b ∈ l, Bytes b) → Bytes (l.flatMap mk)
  | [], _ => fun x hx => by simp at hx
  | b :: l, h => by
    rw [List.flatMap_cons]
    exact bytes_append (mk_bytes b (h b (by simp))) (mks_bytes l (fun x hx => h x (List.mem_cons_of_mem _ hx)))
theorem mks_length (l : List (List Int)) : (l.flatMap mk).length = costs l := by
  induction l with
  | nil => rfl
  | cons b l ih => rw [List.flatMap_cons, List.length_append, mk_length, ih]; simp only [costs]
theorem costs_tot (l : List (List Int)) : costs l = 8 * l.length + tot l := by
  induction l with
  | nil => rfl
  | cons b l ih => simp only [costs, tot, List.length_cons]; omega
theorem filter_le (l : List (List Int)) (f : List Int → Bool) : costs (l.filter f) ≤ costs l := by
  induction l with
  | nil => simp
  | cons b l ih => rw [List.filter_cons]; split <;> simp only [costs] <;> omega
theorem alike_loop (l : List (List Int)) (hl : l.length ≤ 1000000) : ∀ (d k i : Nat), i + d = l.length → d < k → fairleadlaw16_alike.l0 k l l (i : Int) = some true
  | 0, k + 1, i, hd, _ => by
    simp only [fairleadlaw16_alike.l0]
    rw [if_neg (by omega)]
  | d + 1, k + 1, i, hd, hk => by
    simp only [fairleadlaw16_alike.l0]
    rw [if_pos (by omega), if_pos (by omega), if_pos (by omega), if_pos trivial, IntWalk.wrap64_in _ (by omega)]
    exact alike_loop l hl d k (i + 1) (by omega) (by omega)
theorem alike_same (l : List (List Int)) (hl : l.length ≤ 1000000) (k : Nat) (hk : l.length < k) : fairleadlaw16_alike.f k l l = some true := by
  unfold fairleadlaw16_alike.f
  rw [if_pos rfl]
  exact alike_loop l hl l.length k 0 (by omega) hk
end Go.Proofs.Ytpkgpapdmjapmaa.Pure

namespace Go.Proofs.Ytpkgpapdmjapmaa.Fns
open Go.RowKit Go.Proofs.YtpkgpapdmjapmaaW.PrintWords Go.Proofs.YtpkgpapdmjapmaaW.PrintLast Go.Proofs.YtpkgpapdmjapmaaW.PrintMore Go.Proofs.Ytpkgpapdmjapmaa.SumMath Go.Proofs.Ytpkgpapdmjapmaa.Pure
set_option linter.unusedVariables false
set_option linter.unusedSimpArgs false

/-- A slice as it lies: where, its length, its room. -/
abbrev RawT := Option Addr × Nat × Nat
def raw : Kd RawT := Kd.scalar (fun p => .slice p.1 p.2.1 p.2.2) (fun _ => rfl)
theorem raw_narrow {e base : Nat} {w : World} {ok : Nat → Prop} {v : Value} {xs : List RawT} (h : Kd.R raw e w base ok v xs) : Kd.R raw e w base (fun k => some k = v.ownBlock ∧ ok k) v xs :=
  ⟨fun k hk => ⟨hk.symm, h.1 k hk⟩, h.2.imp_ (fun _ _ hp => hp)⟩
/-- the slice as it lies reads as b. -/
def Shows (w : World) (p : RawT) (b : List Int) : Prop := p.2.1 = b.length ∧ b.length ≤ p.2.2 ∧ Kd.C (Kd.int .u8) w p.1 b.length b
def ShowsAll (w : World) : List RawT → List (List Int) → Prop
  | [], [] => True
  | p :: ps, b :: bs => Shows w p b ∧ ShowsAll w ps bs
  | _, _ => False
theorem ShowsAll.length {w : World} : ∀ {ps : List RawT} {bs : List (List Int)}, ShowsAll w ps bs → ps.length = bs.length
  | [], [], _ => rfl
  | _ :: _, _ :: _, h => by simp [ShowsAll.length h.2]
theorem ShowsAll.append {w : World} : ∀ {ps qs : List RawT} {bs cs : List (List Int)}, ShowsAll w ps bs → ShowsAll w qs cs → ShowsAll w (ps ++ qs) (bs ++ cs)
  | [], _, [], _, _, h => h
  | _ :: _, _, _ :: _, _, h, h2 => ⟨h.1, ShowsAll.append h.2 h2⟩
theorem ShowsAll.below {w w1 : World} (hb : Below w.heap.size w w1) : ∀ {ps : List RawT} {bs : List (List Int)}, ShowsAll w ps bs → ShowsAll w1 ps bs
  | [], [], _ => trivial
  | _ :: _, _ :: _, h => ⟨⟨h.1.1, h.1.2.1, Kd.C_below h.1.2.2 hb⟩, ShowsAll.below hb h.2⟩
theorem ShowsAll.get {w : World} : ∀ {ps : List RawT} {bs : List (List Int)} (j : Nat) (b : List Int), ShowsAll w ps bs → bs[j]? = some b → ∃ p, ps[j]? = some p ∧ Shows w p b
  | [], [], j, b, _, h => by simp at h
  | p :: ps, c :: bs, 0, b, h, hj => by
    simp only [List.getElem?_cons_zero, Option.some.injEq] at hj
    subst hj
    exact ⟨p, rfl, h.1⟩
  | p :: ps, c :: bs, j + 1, b, h, hj => by
    simp only [List.getElem?_cons_succ] at hj ⊢
    exact ShowsAll.get j b h.2 hj
theorem raw_rows {w : World} {A : Option Addr} {n : Nat} {ps : List RawT} {bs : List (List Int)} (h : Kd.C raw w A n ps) (hS : ShowsAll w ps bs) : Kd.C (Kd.slice 5 (Kd.int .u8)) w A n bs := by
  obtain ⟨h1, h2, h3⟩ := h
  refine ⟨by rw [← hS.length]; exact h1, h2, fun hn => ?_⟩
  obtain ⟨ad, e, hc⟩ := h3 hn
  refine ⟨ad, e, fun j b hj => ?_⟩
  obtain ⟨p, hp, s1, s2, s3⟩ := hS.get j b hj
  obtain ⟨c, hl, hK, hcell⟩ := hc j p hp
  refine ⟨c, hl, ⟨p.1, p.2.2, ?_, s2, s3⟩, hcell⟩
  rw [← s1]
  exact hK
end Go.Proofs.Ytpkgpapdmjapmaa.Fns
