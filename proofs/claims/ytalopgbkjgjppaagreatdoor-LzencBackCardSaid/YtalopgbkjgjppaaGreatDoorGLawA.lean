/- Part of a proof: LawA, LawR. -/
import Derived.Test.YtalopgbkjgjppaaGreatDoorGAp
import Derived.Test.YtalopgbkjgjppaaGreatDoorGRf
/- The program's packet.Apply and the document's: one function, where the last distances are one or more. -/
namespace Go.Proofs.YtalopgbkjgjppaaGreatDoor
open Go.RowKit Go.Cas

def rok (r : Int × Int × Int × Int) : Prop := 1 ≤ r.1 ∧ 1 ≤ r.2.1 ∧ 1 ≤ r.2.2.1 ∧ 1 ≤ r.2.2.2

theorem back_fits (k d l y h a b c e : Int) (hk : k ≠ 1) (ha : 1 ≤ a) (hb : 1 ≤ b) (hc : 1 ≤ c) (he : 1 ≤ e) :
    (fitsL k d l y h a b c e).2.2.2 = (backL k d l y h a b c e).2.2.2 ∧
    ((backL k d l y h a b c e).2.2.2 = true → fitsL k d l y h a b c e = backL k d l y h a b c e ∧ 1 ≤ (backL k d l y h a b c e).1 ∧ (backL k d l y h a b c e).1 ≤ h ∧
      1 ≤ (backL k d l y h a b c e).2.1 ∧ (backL k d l y h a b c e).2.1 ≤ 273 ∧ rok (backL k d l y h a b c e).2.2.1) := by
  unfold fitsL
  rw [if_neg (by omega)]
  by_cases hy : y = 0
  · subst hy
    by_cases h2 : k = 2
    · subst h2
      have e1 : copiesL 2 d l 0 h a b c e = (d, l, (d, a, b, c), decide (1 ≤ d ∧ d ≤ h ∧ d ≤ 1048576 ∧ 2 ≤ l ∧ l ≤ 273)) := by
        simp [copiesL, longB]
        by_cases h1 : 1 ≤ d <;> by_cases h3 : d ≤ h <;> by_cases h4 : d ≤ 1048576 <;> by_cases h5 : 2 ≤ l <;> by_cases h6 : l ≤ 273 <;> simp [*] <;> omega
      have e2 : backL 2 d l 0 h a b c e = (d, l, (d, a, b, c), decide (1 ≤ d ∧ d ≤ h ∧ d ≤ 1048576 ∧ 2 ≤ l ∧ l ≤ 273)) := by simp [backL]
      rw [e1, e2]
      by_cases hq : 1 ≤ d ∧ d ≤ h ∧ d ≤ 1048576 ∧ 2 ≤ l ∧ l ≤ 273
      · rw [decide_eq_true hq]
        refine ⟨rfl, fun _ => ⟨rfl, hq.1, hq.2.1, (show 1 ≤ l by omega), (show l ≤ 273 by omega), ⟨hq.1, ha, hb, hc⟩⟩⟩
      · rw [decide_eq_false hq]
        exact ⟨rfl, fun h => by cases h⟩
    by_cases h3 : k = 3
    · subst h3
      by_cases hd : 0 ≤ d ∧ d < 4
      · have e1 : copiesL 3 d l 0 h a b c e = ((if d = 0 then a else if d = 1 then b else if d = 2 then c else e), l, frontL a b c e d, decide ((if d = 0 then a else if d = 1 then b else if d = 2 then c else e) ≤ h ∧ 2 ≤ l ∧ l ≤ 273)) := by
          simp [copiesL, longB, hd]
        have e2 : backL 3 d l 0 h a b c e = ((if d = 0 then a else if d = 1 then b else if d = 2 then c else e), l, frontL a b c e d, decide ((if d = 0 then a else if d = 1 then b else if d = 2 then c else e) ≤ h ∧ 2 ≤ l ∧ l ≤ 273)) := by simp [backL, hd]
        rw [e1, e2]
        have e3 : 1 ≤ (if d = 0 then a else if d = 1 then b else if d = 2 then c else e) := by split <;> (try split) <;> (try split) <;> assumption
        have e4 : rok (frontL a b c e d) := by unfold frontL rok; split <;> (try split) <;> (try split) <;> exact ⟨by assumption, by assumption, by assumption, by assumption⟩
        generalize (if d = 0 then a else if d = 1 then b else if d = 2 then c else e) = z at *
        by_cases hq : z ≤ h ∧ 2 ≤ l ∧ l ≤ 273
        · rw [decide_eq_true hq]
          exact ⟨rfl, fun _ => ⟨rfl, e3, hq.1, (show 1 ≤ l by omega), (show l ≤ 273 by omega), e4⟩⟩
        · rw [decide_eq_false hq]
          exact ⟨rfl, fun h => by cases h⟩
      · have e1 : copiesL 3 d l 0 h a b c e = (0, 0, (a, b, c, e), false) := by simp [copiesL, hd]
        have e2 : backL 3 d l 0 h a b c e = (0, 0, (a, b, c, e), false) := by simp [backL, hd]
        rw [e1, e2]
        exact ⟨rfl, fun h => by cases h⟩
    by_cases h4 : k = 4
    · subst h4
      have e2 : backL 4 d l 0 h a b c e = (a, 1, (a, b, c, e), decide (a ≤ h ∧ d = 0 ∧ l = 0)) := by simp [backL]
      by_cases hq : d = 0 ∧ l = 0
      · obtain ⟨rfl, rfl⟩ := hq
        have e1 : copiesL 4 0 0 0 h a b c e = (a, 1, (a, b, c, e), decide (a ≤ h)) := by simp [copiesL]
        rw [e1, e2]
        by_cases hq : a ≤ h
        · rw [decide_eq_true hq, decide_eq_true (show a ≤ h ∧ (0 : Int) = 0 ∧ (0 : Int) = 0 from ⟨hq, rfl, rfl⟩)]
          exact ⟨rfl, fun _ => ⟨rfl, ha, hq, (show (1 : Int) ≤ 1 by omega), (show (1 : Int) ≤ 273 by omega), ⟨ha, hb, hc, he⟩⟩⟩
        · rw [decide_eq_false hq, decide_eq_false (show ¬ (a ≤ h ∧ (0 : Int) = 0 ∧ (0 : Int) = 0) from fun hh => hq hh.1)]
          exact ⟨rfl, fun h => by cases h⟩
      · have e1 : copiesL 4 d l 0 h a b c e = (0, 0, (a, b, c, e), false) := by simp [copiesL]; omega
        rw [e1, e2, decide_eq_false (fun hh => hq hh.2)]
        exact ⟨rfl, fun h => by cases h⟩
    · have e1 : copiesL k d l 0 h a b c e = (0, 0, (a, b, c, e), false) := by simp [copiesL, h2, h3, h4]
      have e2 : backL k d l 0 h a b c e = (0, 0, (a, b, c, e), false) := by simp [backL, h2, h3, h4]
      rw [e1, e2]
      exact ⟨rfl, fun h => by cases h⟩
  · have e1 : copiesL k d l y h a b c e = (0, 0, (a, b, c, e), false) := by simp [copiesL, hy]
    have e2 : backL k d l y h a b c e = (0, 0, (a, b, c, e), false) := by simp [backL, hy]
    rw [e1, e2]
    exact ⟨rfl, fun h => by cases h⟩

/-- A packet that is not of kind 1, as the document has it. -/
theorem applyGo_copy (M : Nat) (p : Pk) (ps : List Pk) (bs : List UInt8) (r : Int × Int × Int × Int) (hk : p.k ≠ 1) (hr : rok r) :
    applyGo M (p :: ps) bs r = (if (backL p.k p.d p.l p.y.toNat bs.length r.1 r.2.1 r.2.2.1 r.2.2.2).2.2.2 then
        if (backL p.k p.d p.l p.y.toNat bs.length r.1 r.2.1 r.2.2.1 r.2.2.2).2.1 ≤ (M : Int) - bs.length then
          applyGo M ps (copyL bs (backL p.k p.d p.l p.y.toNat bs.length r.1 r.2.1 r.2.2.1 r.2.2.2).1.toNat (backL p.k p.d p.l p.y.toNat bs.length r.1 r.2.1 r.2.2.1 r.2.2.2).2.1.toNat) (backL p.k p.d p.l p.y.toNat bs.length r.1 r.2.1 r.2.2.1 r.2.2.2).2.2.1
        else ([], 11)
      else ([], 6)) := by
  obtain ⟨h1, h2⟩ := back_fits p.k p.d p.l p.y.toNat bs.length r.1 r.2.1 r.2.2.1 r.2.2.2 hk hr.1 hr.2.1 hr.2.2.1 hr.2.2.2
  simp only [applyGo]
  rw [if_neg (fun h => hk h.1), h1]
  by_cases hb : (backL p.k p.d p.l p.y.toNat bs.length r.1 r.2.1 r.2.2.1 r.2.2.2).2.2.2 = true
  · obtain ⟨h3, h4, h5, h6, h7, h8⟩ := h2 hb
    rw [if_pos hb, if_pos hb, h3]
    by_cases hm : (backL p.k p.d p.l p.y.toNat bs.length r.1 r.2.1 r.2.2.1 r.2.2.2).2.1 ≤ (M : Int) - bs.length
    · rw [if_pos hm, if_pos ⟨h4, h5, by omega, hm⟩]
    · rw [if_neg hm, if_neg (fun h => hm h.2.2.2)]
  · rw [if_neg hb, if_neg hb]

end Go.Proofs.YtalopgbkjgjppaaGreatDoor

/- Packets told as reps tell the same text. -/
namespace Go.Proofs.YtalopgbkjgjppaaGreatDoor
open Go.RowKit Go.Cas

def rokB (r : Int × Int × Int × Int) : Prop := (1 ≤ r.1 ∧ r.1 ≤ 1048576) ∧ (1 ≤ r.2.1 ∧ r.2.1 ≤ 1048576) ∧ (1 ≤ r.2.2.1 ∧ r.2.2.1 ≤ 1048576) ∧ (1 ≤ r.2.2.2 ∧ r.2.2.2 ≤ 1048576)

theorem rokB_front (a b c e i : Int) (h : rokB (a, b, c, e)) : rokB (frontL a b c e i) := by
  obtain ⟨h0, h1, h2, h3⟩ := h
  dsimp only at h0 h1 h2 h3
  unfold frontL
  split
  · exact ⟨h1, h0, h2, h3⟩
  · split
    · exact ⟨h2, h0, h1, h3⟩
    · split
      · exact ⟨h3, h0, h1, h2⟩
      · exact ⟨h0, h1, h2, h3⟩

theorem applyGo_fit (M : Nat) (p : Pk) (ps : List Pk) (bs : List UInt8) (r : Int × Int × Int × Int) (x0 x1 : Int) (y : Int × Int × Int × Int) (hp : ¬ (p.k = 1 ∧ p.d = 0 ∧ p.l = 0))
    (hf : fitsL p.k p.d p.l p.y.toNat bs.length r.1 r.2.1 r.2.2.1 r.2.2.2 = (x0, x1, y, true)) (hc : 1 ≤ x0 ∧ x0 ≤ (bs.length : Int) ∧ 0 ≤ x1 ∧ x1 ≤ (M : Int) - bs.length) :
    applyGo M (p :: ps) bs r = applyGo M ps (copyL bs x0.toNat x1.toNat) y := by
  simp only [applyGo]
  rw [if_neg hp, hf]
  dsimp only
  rw [if_pos rfl, if_pos hc]

theorem fits_rep (i l H a b c e : Int) (hi : 0 ≤ i ∧ i < 4) (hd : (if i = 0 then a else if i = 1 then b else if i = 2 then c else e) ≤ H) (h2 : 2 ≤ l) (h3 : l ≤ 273) :
    fitsL 3 i l 0 H a b c e = ((if i = 0 then a else if i = 1 then b else if i = 2 then c else e), l, frontL a b c e i, true) := by
  have e1 : copiesL 3 i l 0 H a b c e = ((if i = 0 then a else if i = 1 then b else if i = 2 then c else e), l, frontL a b c e i, true) := by
    simp [copiesL, longB, hi, h2, h3]
    generalize (if i = 0 then a else if i = 1 then b else if i = 2 then c else e) = z at *
    exact hd
  unfold fitsL
  rw [if_neg (by omega), e1]
  rfl

theorem fits_mat (d l H a b c e : Int) (h0 : 1 ≤ d) (h1 : d ≤ H) (h4 : d ≤ 1048576) (h2 : 2 ≤ l) (h3 : l ≤ 273) : fitsL 2 d l 0 H a b c e = (d, l, (d, a, b, c), true) := by
  have e1 : copiesL 2 d l 0 H a b c e = (d, l, (d, a, b, c), true) := by
    simp [copiesL, longB, h0, h2, h3]
    omega
  unfold fitsL
  rw [if_neg (by omega), e1]
  rfl

theorem find_hit (a b c e x : Int) (h : (findL a b c e x).2 = true) : ∃ i, findL a b c e x = (i, true) ∧ 0 ≤ i ∧ i < 4 ∧ (if i = 0 then a else if i = 1 then b else if i = 2 then c else e) = x ∧ (frontL a b c e i).1 = x := by
  unfold findL at h ⊢
  by_cases h0 : a = x
  · rw [if_pos h0]; exact ⟨0, rfl, by decide, by decide, by simpa using h0, by simpa [frontL] using h0⟩
  rw [if_neg h0] at h ⊢
  by_cases h1 : b = x
  · rw [if_pos h1]; exact ⟨1, rfl, by decide, by decide, by simpa using h1, by simpa [frontL] using h1⟩
  rw [if_neg h1] at h ⊢
  by_cases h2 : c = x
  · rw [if_pos h2]; exact ⟨2, rfl, by decide, by decide, by simpa using h2, by simpa [frontL] using h2⟩
  rw [if_neg h2] at h ⊢
  by_cases h3 : e = x
  · rw [if_pos h3]; exact ⟨3, rfl, by decide, by decide, by simpa using h3, by simpa [frontL] using h3⟩
  · rw [if_neg h3] at h; cases h

/-- One packet that tells a distance, told anew. -/
theorem tell_step (M : Nat) (n D : Int) (bs : List UInt8) (a b c e : Int) (rest : Int × Int × Int × Int → List Pk) (hD : 1 ≤ D) (hD2 : D ≤ bs.length) (hD3 : D ≤ 1048576) (h2 : 2 ≤ n) (h3 : n ≤ 273) (hM : n ≤ (M : Int) - bs.length) (hr : rokB (a, b, c, e)) :
    ∃ y : Int × Int × Int × Int, y.1 = D ∧ rokB y ∧
      applyGo M (if (findL a b c e D).2 then ⟨3, (findL a b c e D).1, n, 0⟩ :: rest (distL 3 (findL a b c e D).1 a b c e).2.1 else ⟨2, D, n, 0⟩ :: rest (distL 2 D a b c e).2.1) bs (a, b, c, e) =
        applyGo M (rest y) (copyL bs D.toNat n.toNat) y := by
  by_cases hf : (findL a b c e D).2 = true
  · obtain ⟨i, hi, h0, h4, hx, hy⟩ := find_hit a b c e D hf
    rw [hi]
    have e5 : (distL 3 i a b c e).2.1 = frontL a b c e i := by unfold distL; rw [if_neg (by decide), if_pos ⟨rfl, h0, h4⟩]
    refine ⟨frontL a b c e i, hy, rokB_front _ _ _ _ _ hr, ?_⟩
    rw [if_pos rfl]
    have := fits_rep i n bs.length a b c e ⟨h0, h4⟩ (by rw [hx]; exact hD2) h2 h3
    rw [hx] at this
    rw [applyGo_fit M ⟨3, i, n, 0⟩ _ bs (a, b, c, e) D n (frontL a b c e i) (by simp) this ⟨hD, hD2, by omega, hM⟩, e5]
  · have e5 : (distL 2 D a b c e).2.1 = (D, a, b, c) := by unfold distL; rw [if_pos rfl]
    refine ⟨(D, a, b, c), rfl, ⟨⟨hD, hD3⟩, hr.1, hr.2.1, hr.2.2.1⟩, ?_⟩
    rw [if_neg hf]
    rw [applyGo_fit M ⟨2, D, n, 0⟩ _ bs (a, b, c, e) D n (D, a, b, c) (by simp) (fits_mat D n bs.length a b c e hD hD2 hD3 h2 h3) ⟨hD, hD2, by omega, hM⟩, e5]

theorem repeat_tells (M : Nat) : ∀ (l : List Pk) (bs : List UInt8) (was now : Int × Int × Int × Int), rokB was → rokB now → was.1 = now.1 → (applyGo M l bs was).2 = 0 →
    applyGo M (repeatGo l was now) bs now = applyGo M l bs was
  | [], _, _, _, _, _, _, _ => rfl
  | p :: ps, bs, was, now, hw, hn, h1, h => by
    obtain ⟨a, b, c, e⟩ := was
    obtain ⟨a', b', c', e'⟩ := now
    obtain ⟨pk_, pd, pl, py⟩ := p
    dsimp only at h1
    subst h1
    by_cases hl : pk_ = 1 ∧ pd = 0 ∧ pl = 0
    · obtain ⟨rfl, rfl, rfl⟩ := hl
      have e5 : distL 1 0 a b c e = (0, (a, b, c, e), false) := by unfold distL; rw [if_neg (by decide), if_neg (by omega)]
      simp only [repeatGo, e5, Bool.false_eq_true, if_false]
      simp only [applyGo, and_self, if_true] at h ⊢
      by_cases hM : bs.length < M
      · rw [if_pos hM] at h ⊢
        rw [if_pos hM]
        exact repeat_tells M ps _ _ _ hw hn rfl h
      · rw [if_neg hM] at h
        exact absurd h (by decide)
    · have hstep := h
      simp only [applyGo] at hstep
      rw [if_neg hl] at hstep
      by_cases hok : (fitsL pk_ pd pl py.toNat bs.length a b c e).2.2.2 = true
      · rw [if_pos hok] at hstep
        by_cases hc : 1 ≤ (fitsL pk_ pd pl py.toNat bs.length a b c e).1 ∧ (fitsL pk_ pd pl py.toNat bs.length a b c e).1 ≤ (bs.length : Int) ∧
            0 ≤ (fitsL pk_ pd pl py.toNat bs.length a b c e).2.1 ∧ (fitsL pk_ pd pl py.toNat bs.length a b c e).2.1 ≤ (M : Int) - bs.length
        · rw [if_pos hc] at hstep
          have hk1 : pk_ ≠ 1 := by
            intro hk
            subst hk
            unfold fitsL at hok
            rw [if_neg hl] at hok
            simp [copiesL] at hok
          obtain ⟨g1, g2⟩ := back_fits pk_ pd pl py.toNat bs.length a b c e hk1 hw.1.1 hw.2.1.1 hw.2.2.1.1 hw.2.2.2.1
          obtain ⟨g3, _⟩ := g2 (g1.symm.trans hok)
          have hp : ¬ (pk_ = 1 ∧ pd = 0 ∧ pl = 0) := hl
          rw [g3] at hok hc hstep
          have hy0 : (py.toNat : Int) = 0 := by
            by_cases hz : (py.toNat : Int) = 0
            · exact hz
            · unfold backL at hok; rw [if_pos hz] at hok; cases hok
          have hpy : py = 0 := by
            apply UInt8.toNat_inj.1
            simpa using hy0
          subst hpy
          by_cases hk2 : pk_ = 2
          · subst hk2
            have e2 : backL 2 pd pl ((0 : UInt8).toNat : Int) bs.length a b c e = (pd, pl, (pd, a, b, c), decide (1 ≤ pd ∧ pd ≤ bs.length ∧ pd ≤ 1048576 ∧ 2 ≤ pl ∧ pl ≤ 273)) := by simp [backL]
            rw [e2] at hok hc hstep
            have hq := of_decide_eq_true hok
            dsimp only at hc hstep
            have e5 : distL 2 pd a b c e = (pd, (pd, a, b, c), true) := by unfold distL; rw [if_pos rfl]
            obtain ⟨y, hy, hyr, hyA⟩ := tell_step M pl pd bs a b' c' e' (fun z => repeatGo ps (pd, a, b, c) z) hc.1 hc.2.1 hq.2.2.1 hq.2.2.2.1 hq.2.2.2.2 hc.2.2.2 hn
            have : applyGo M (repeatGo (⟨2, pd, pl, 0⟩ :: ps) (a, b, c, e) (a, b', c', e')) bs (a, b', c', e') = applyGo M (repeatGo ps (pd, a, b, c) y) (copyL bs pd.toNat pl.toNat) y := by
              simp only [repeatGo, e5, if_true]
              exact hyA
            rw [this, repeat_tells M ps _ _ _ ⟨⟨hc.1, hq.2.2.1⟩, hw.1, hw.2.1, hw.2.2.1⟩ hyr hy.symm hstep]
            rw [applyGo_fit M ⟨2, pd, pl, 0⟩ ps bs (a, b, c, e) pd pl (pd, a, b, c) (by simp) (by rw [show fitsL (Pk.mk 2 pd pl 0).k (Pk.mk 2 pd pl 0).d (Pk.mk 2 pd pl 0).l ((Pk.mk 2 pd pl 0).y.toNat : Int) bs.length a b c e = fitsL 2 pd pl 0 bs.length a b c e from rfl]; exact fits_mat pd pl bs.length a b c e hc.1 hc.2.1 hq.2.2.1 hq.2.2.2.1 hq.2.2.2.2) hc]
          by_cases hk3 : pk_ = 3
          · subst hk3
            by_cases hd : 0 ≤ pd ∧ pd < 4
            · have e2 : backL 3 pd pl ((0 : UInt8).toNat : Int) bs.length a b c e = ((if pd = 0 then a else if pd = 1 then b else if pd = 2 then c else e), pl, frontL a b c e pd, decide ((if pd = 0 then a else if pd = 1 then b else if pd = 2 then c else e) ≤ bs.length ∧ 2 ≤ pl ∧ pl ≤ 273)) := by simp [backL, hd]
              have e5 : distL 3 pd a b c e = ((if pd = 0 then a else if pd = 1 then b else if pd = 2 then c else e), frontL a b c e pd, true) := by unfold distL; rw [if_neg (by decide), if_pos ⟨rfl, hd⟩]
              have e6 : (frontL a b c e pd).1 = (if pd = 0 then a else if pd = 1 then b else if pd = 2 then c else e) ∧ (if pd = 0 then a else if pd = 1 then b else if pd = 2 then c else e) ≤ 1048576 := by
                obtain ⟨w0, w1, w2, w3⟩ := hw
                dsimp only at w0 w1 w2 w3
                obtain rfl | rfl | rfl | rfl : pd = 0 ∨ pd = 1 ∨ pd = 2 ∨ pd = 3 := by omega
                all_goals simp [frontL]; omega
              rw [e2] at hok hc hstep
              have hfr := fun h2 h3 hd2 => fits_rep pd pl bs.length a b c e hd hd2 h2 h3
              generalize (if pd = 0 then a else if pd = 1 then b else if pd = 2 then c else e) = D at *
              have hq := of_decide_eq_true hok
              dsimp only at hc hstep
              obtain ⟨y, hy, hyr, hyA⟩ := tell_step M pl D bs a b' c' e' (fun z => repeatGo ps (frontL a b c e pd) z) hc.1 hc.2.1 e6.2 hq.2.1 hq.2.2 hc.2.2.2 hn
              have : applyGo M (repeatGo (⟨3, pd, pl, 0⟩ :: ps) (a, b, c, e) (a, b', c', e')) bs (a, b', c', e') = applyGo M (repeatGo ps (frontL a b c e pd) y) (copyL bs D.toNat pl.toNat) y := by
                simp only [repeatGo, e5, if_true]
                exact hyA
              rw [this, repeat_tells M ps _ _ _ (rokB_front _ _ _ _ _ hw) hyr (e6.1.trans hy.symm) hstep]
              rw [applyGo_fit M ⟨3, pd, pl, 0⟩ ps bs (a, b, c, e) D pl (frontL a b c e pd) (by simp) (hfr hq.2.1 hq.2.2 hc.2.1) hc]
            · exfalso
              have e2 : backL 3 pd pl ((0 : UInt8).toNat : Int) bs.length a b c e = (0, 0, (a, b, c, e), false) := by simp [backL, hd]
              rw [e2] at hok; cases hok
          by_cases hk4 : pk_ = 4
          · subst hk4
            have e2 : backL 4 pd pl ((0 : UInt8).toNat : Int) bs.length a b c e = (a, 1, (a, b, c, e), decide (a ≤ bs.length ∧ pd = 0 ∧ pl = 0)) := by simp [backL]
            rw [e2] at hok hc hstep
            obtain ⟨hq1, rfl, rfl⟩ := of_decide_eq_true hok
            dsimp only at hc hstep
            have e5 : distL 4 0 a b c e = (0, (a, b, c, e), false) := by unfold distL; rw [if_neg (by decide), if_neg (by omega)]
            have ef : ∀ b c e : Int, fitsL 4 0 0 0 bs.length a b c e = (a, 1, (a, b, c, e), true) := by
              intro b c e
              have e1 : copiesL 4 0 0 0 bs.length a b c e = (a, 1, (a, b, c, e), true) := by simp [copiesL, hq1]
              unfold fitsL
              rw [if_neg (by omega), e1]
              rfl
            simp only [repeatGo, e5, Bool.false_eq_true, if_false]
            rw [applyGo_fit M ⟨4, 0, 0, 0⟩ _ bs (a, b', c', e') a 1 (a, b', c', e') (by simp) (ef b' c' e') hc, applyGo_fit M ⟨4, 0, 0, 0⟩ ps bs (a, b, c, e) a 1 (a, b, c, e) (by simp) (ef b c e) hc]
            exact repeat_tells M ps _ _ _ hw hn rfl hstep
          · exfalso
            have e2 : backL pk_ pd pl ((0 : UInt8).toNat : Int) bs.length a b c e = (0, 0, (a, b, c, e), false) := by simp [backL, hk2, hk3, hk4]
            rw [e2] at hok; cases hok
        · rw [if_neg hc] at hstep
          exact absurd hstep (by decide)
      · rw [if_neg hok] at hstep
        exact absurd hstep (by decide)

theorem repeatL_tells (l : List Pk) (most : Int) (h : (applyL l most).2 = 0) : applyL (repeatL l) most = applyL l most :=
  repeat_tells most.toNat l [] (1, 1, 1, 1) (1, 1, 1, 1) (by simp [rokB]) (by simp [rokB]) rfl h

theorem repeatGo_length : ∀ (l : List Pk) (was now : Int × Int × Int × Int), (repeatGo l was now).length = l.length
  | [], _, _ => rfl
  | p :: ps, was, now => by
    simp only [repeatGo]
    split
    · split <;> simp [repeatGo_length ps]
    · simp [repeatGo_length ps]
end Go.Proofs.YtalopgbkjgjppaaGreatDoor
