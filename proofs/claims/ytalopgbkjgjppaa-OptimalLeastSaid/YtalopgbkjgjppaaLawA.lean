/- The program's packet.Apply and the document's: one function, where the last distances are one or more. -/
import Derived.Test.YtalopgbkjgjppaaAp
import Derived.Test.YtalopgbkjgjppaaBk3
namespace Go.Proofs.Ytalopgbkjgjppaa
open Go.RowKit Go.Cas

def rok (r : Int × Int × Int × Int) : Prop := 1 ≤ r.1 ∧ 1 ≤ r.2.1 ∧ 1 ≤ r.2.2.1 ∧ 1 ≤ r.2.2.2

theorem back_fits (k d l y h a b c e : Int) (hk : k ≠ 1) (ha : 1 ≤ a) (hb : 1 ≤ b) (hc : 1 ≤ c) (he : 1 ≤ e) :
    (fitsL k d l y h a b c e).2.2.2 = (backL k d l y h a b c e).2.2.2 ∧
    ((backL k d l y h a b c e).2.2.2 = true → fitsL k d l y h a b c e = backL k d l y h a b c e ∧ 1 ≤ (backL k d l y h a b c e).1 ∧ (backL k d l y h a b c e).1 ≤ h ∧
      1 ≤ (backL k d l y h a b c e).2.1 ∧ (backL k d l y h a b c e).2.1 ≤ 273 ∧ rok (backL k d l y h a b c e).2.2.1) := by
  unfold fitsL
  rw [if_neg (by omega)]
  by_cases hy : y = 0
  · subst hy
    by_cases h2 : k = 2
    · subst h2
      have e1 : copiesL 2 d l 0 h a b c e = (d, l, (d, a, b, c), decide (1 ≤ d ∧ d ≤ h ∧ d ≤ 1048576 ∧ 2 ≤ l ∧ l ≤ 273)) := by
        simp [copiesL, longB]
        by_cases h1 : 1 ≤ d <;> by_cases h3 : d ≤ h <;> by_cases h4 : d ≤ 1048576 <;> by_cases h5 : 2 ≤ l <;> by_cases h6 : l ≤ 273 <;> simp [*] <;> omega
      have e2 : backL 2 d l 0 h a b c e = (d, l, (d, a, b, c), decide (1 ≤ d ∧ d ≤ h ∧ d ≤ 1048576 ∧ 2 ≤ l ∧ l ≤ 273)) := by simp [backL]
      rw [e1, e2]
      by_cases hq : 1 ≤ d ∧ d ≤ h ∧ d ≤ 1048576 ∧ 2 ≤ l ∧ l ≤ 273
      · rw [decide_eq_true hq]
        refine ⟨rfl, fun _ => ⟨rfl, hq.1, hq.2.1, (show 1 ≤ l by omega), (show l ≤ 273 by omega), ⟨hq.1, ha, hb, hc⟩⟩⟩
      · rw [decide_eq_false hq]
        exact ⟨rfl, fun h => by cases h⟩
    by_cases h3 : k = 3
    · subst h3
      by_cases hd : 0 ≤ d ∧ d < 4
      · have e1 : copiesL 3 d l 0 h a b c e = ((if d = 0 then a else if d = 1 then b else if d = 2 then c else e), l, frontL a b c e d, decide ((if d = 0 then a else if d = 1 then b else if d = 2 then c else e) ≤ h ∧ 2 ≤ l ∧ l ≤ 273)) := by
          simp [copiesL, longB, hd]
        have e2 : backL 3 d l 0 h a b c e = ((if d = 0 then a else if d = 1 then b else if d = 2 then c else e), l, frontL a b c e d, decide ((if d = 0 then a else if d = 1 then b else if d = 2 then c else e) ≤ h ∧ 2 ≤ l ∧ l ≤ 273)) := by simp [backL, hd]
        rw [e1, e2]
        have e3 : 1 ≤ (if d = 0 then a else if d = 1 then b else if d = 2 then c else e) := by split <;> (try split) <;> (try split) <;> assumption
        have e4 : rok (frontL a b c e d) := by unfold frontL rok; split <;> (try split) <;> (try split) <;> exact ⟨by assumption, by assumption, by assumption, by assumption⟩
        generalize (if d = 0 then a else if d = 1 then b else if d = 2 then c else e) = z at *
        by_cases hq : z ≤ h ∧ 2 ≤ l ∧ l ≤ 273
        · rw [decide_eq_true hq]
          exact ⟨rfl, fun _ => ⟨rfl, e3, hq.1, (show 1 ≤ l by omega), (show l ≤ 273 by omega), e4⟩⟩
        · rw [decide_eq_false hq]
          exact ⟨rfl, fun h => by cases h⟩
      · have e1 : copiesL 3 d l 0 h a b c e = (0, 0, (a, b, c, e), false) := by simp [copiesL, hd]
        have e2 : backL 3 d l 0 h a b c e = (0, 0, (a, b, c, e), false) := by simp [backL, hd]
        rw [e1, e2]
        exact ⟨rfl, fun h => by cases h⟩
    by_cases h4 : k = 4
    · subst h4
      have e2 : backL 4 d l 0 h a b c e = (a, 1, (a, b, c, e), decide (a ≤ h ∧ d = 0 ∧ l = 0)) := by simp [backL]
      by_cases hq : d = 0 ∧ l = 0
      · obtain ⟨rfl, rfl⟩ := hq
        have e1 : copiesL 4 0 0 0 h a b c e = (a, 1, (a, b, c, e), decide (a ≤ h)) := by simp [copiesL]
        rw [e1, e2]
        by_cases hq : a ≤ h
        · rw [decide_eq_true hq, decide_eq_true (show a ≤ h ∧ (0 : Int) = 0 ∧ (0 : Int) = 0 from ⟨hq, rfl, rfl⟩)]
          exact ⟨rfl, fun _ => ⟨rfl, ha, hq, (show (1 : Int) ≤ 1 by omega), (show (1 : Int) ≤ 273 by omega), ⟨ha, hb, hc, he⟩⟩⟩
        · rw [decide_eq_false hq, decide_eq_false (show ¬ (a ≤ h ∧ (0 : Int) = 0 ∧ (0 : Int) = 0) from fun hh => hq hh.1)]
          exact ⟨rfl, fun h => by cases h⟩
      · have e1 : copiesL 4 d l 0 h a b c e = (0, 0, (a, b, c, e), false) := by simp [copiesL]; omega
        rw [e1, e2, decide_eq_false (fun hh => hq hh.2)]
        exact ⟨rfl, fun h => by cases h⟩
    · have e1 : copiesL k d l 0 h a b c e = (0, 0, (a, b, c, e), false) := by simp [copiesL, h2, h3, h4]
      have e2 : backL k d l 0 h a b c e = (0, 0, (a, b, c, e), false) := by simp [backL, h2, h3, h4]
      rw [e1, e2]
      exact ⟨rfl, fun h => by cases h⟩
  · have e1 : copiesL k d l y h a b c e = (0, 0, (a, b, c, e), false) := by simp [copiesL, hy]
    have e2 : backL k d l y h a b c e = (0, 0, (a, b, c, e), false) := by simp [backL, hy]
    rw [e1, e2]
    exact ⟨rfl, fun h => by cases h⟩

/-- A packet that is not of kind 1, as the document has it. -/
theorem applyGo_copy (M : Nat) (p : Pk) (ps : List Pk) (bs : List UInt8) (r : Int × Int × Int × Int) (hk : p.k ≠ 1) (hr : rok r) :
    applyGo M (p :: ps) bs r = (if (backL p.k p.d p.l p.y.toNat bs.length r.1 r.2.1 r.2.2.1 r.2.2.2).2.2.2 then
        if (backL p.k p.d p.l p.y.toNat bs.length r.1 r.2.1 r.2.2.1 r.2.2.2).2.1 ≤ (M : Int) - bs.length then
          applyGo M ps (copyL bs (backL p.k p.d p.l p.y.toNat bs.length r.1 r.2.1 r.2.2.1 r.2.2.2).1.toNat (backL p.k p.d p.l p.y.toNat bs.length r.1 r.2.1 r.2.2.1 r.2.2.2).2.1.toNat) (backL p.k p.d p.l p.y.toNat bs.length r.1 r.2.1 r.2.2.1 r.2.2.2).2.2.1
        else ([], 11)
      else ([], 6)) := by
  obtain ⟨h1, h2⟩ := back_fits p.k p.d p.l p.y.toNat bs.length r.1 r.2.1 r.2.2.1 r.2.2.2 hk hr.1 hr.2.1 hr.2.2.1 hr.2.2.2
  simp only [applyGo]
  rw [if_neg (fun h => hk h.1), h1]
  by_cases hb : (backL p.k p.d p.l p.y.toNat bs.length r.1 r.2.1 r.2.2.1 r.2.2.2).2.2.2 = true
  · obtain ⟨h3, h4, h5, h6, h7, h8⟩ := h2 hb
    rw [if_pos hb, if_pos hb, h3]
    by_cases hm : (backL p.k p.d p.l p.y.toNat bs.length r.1 r.2.1 r.2.2.1 r.2.2.2).2.1 ≤ (M : Int) - bs.length
    · rw [if_pos hm, if_pos ⟨h4, h5, by omega, hm⟩]
    · rw [if_neg hm, if_neg (fun h => hm h.2.2.2)]
  · rw [if_neg hb, if_neg hb]

/-- A packet of kind 1 that is no byte. -/
theorem applyGo_odd (M : Nat) (p : Pk) (ps : List Pk) (bs : List UInt8) (r : Int × Int × Int × Int) (hk : p.k = 1) (hn : ¬ (p.d = 0 ∧ p.l = 0)) : applyGo M (p :: ps) bs r = ([], 6) := by
  simp only [applyGo]
  rw [if_neg (fun h => hn h.2)]
  have : (fitsL p.k p.d p.l p.y.toNat bs.length r.1 r.2.1 r.2.2.1 r.2.2.2).2.2.2 = false := by
    unfold fitsL
    rw [if_neg (fun h => hn h.2), hk]
    simp [copiesL]
  rw [this]
  rfl
end Go.Proofs.Ytalopgbkjgjppaa
