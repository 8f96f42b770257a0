/- Packets told one behind the other: what applyL makes of them. -/
import Derived.Test.YtalopgbkjgjppaaRp
namespace Go.Proofs.Ytalopgbkjgjppaa
open Go.RowKit Go.Cas

/-- Packets `ps` tell the text `bs`, whatever follows them. -/
def Told (ps : List Pk) (bs : List UInt8) : Prop :=
  ∃ r, (∀ M qs, bs.length ≤ M → applyGo M (ps ++ qs) [] (1, 1, 1, 1) = applyGo M qs bs r) ∧ (∀ M qs, M < bs.length → applyGo M (ps ++ qs) [] (1, 1, 1, 1) = ([], 11))

theorem Told.nil : Told [] [] := ⟨(1, 1, 1, 1), fun _ _ _ => rfl, fun _ _ h => absurd h (by simp)⟩

theorem Told.lit {ps : List Pk} {bs : List UInt8} (h : Told ps bs) (y : UInt8) : Told (ps ++ [⟨1, 0, 0, y⟩]) (bs ++ [y]) := by
  obtain ⟨r, h1, h2⟩ := h
  refine ⟨r, fun M qs hM => ?_, fun M qs hM => ?_⟩
  · simp only [List.length_append, List.length_cons, List.length_nil] at hM
    rw [List.append_assoc, h1 M _ (by omega)]
    simp only [List.cons_append, List.nil_append, applyGo]
    rw [if_pos (by decide), if_pos (by omega)]
  · simp only [List.length_append, List.length_cons, List.length_nil] at hM
    rw [List.append_assoc]
    by_cases hl : M < bs.length
    · exact h2 M _ hl
    · rw [h1 M _ (by omega)]
      simp only [List.cons_append, List.nil_append, applyGo]
      rw [if_pos (by decide), if_neg (by omega)]

theorem fits_match (d n : Int) (H : Nat) (a b c e : Int) (hd : 1 ≤ d) (hd2 : d ≤ H) (hH : H ≤ 1048576) (h2 : 2 ≤ n) (hn : n ≤ 273) :
    fitsL 2 d n 0 H a b c e = (d, n, (d, a, b, c), true) := by
  unfold fitsL copiesL longB
  rw [if_neg (by simp), if_pos (by simp; omega)]
  simp
  omega

theorem Told.copy {ps : List Pk} {bs : List UInt8} (h : Told ps bs) (d n : Nat) (hd : 1 ≤ d) (hd2 : d ≤ bs.length) (hH : bs.length ≤ 1048576) (hn2 : 2 ≤ n) (hn : n ≤ 273) :
    Told (ps ++ [⟨2, d, n, 0⟩]) (copyL bs d n) := by
  obtain ⟨r, h1, h2⟩ := h
  obtain ⟨r0, r1, r2, r3⟩ := r
  have hcl := copyL_length bs d n
  have hf := fits_match d n bs.length r0 r1 r2 r3 (by omega) (by omega) hH (by omega) (by omega)
  refine ⟨(d, r0, r1, r2), fun M qs hM => ?_, fun M qs hM => ?_⟩
  · rw [List.append_assoc, h1 M _ (by omega)]
    simp only [List.cons_append, List.nil_append, applyGo]
    rw [if_neg (by simp), show ((0 : UInt8).toNat : Int) = 0 from rfl, hf]
    simp only [if_true, Int.toNat_natCast]
    rw [if_pos (by omega)]
  · rw [List.append_assoc]
    by_cases hl : M < bs.length
    · exact h2 M _ hl
    · rw [h1 M _ (by omega)]
      simp only [List.cons_append, List.nil_append, applyGo]
      rw [if_neg (by simp), show ((0 : UInt8).toNat : Int) = 0 from rfl, hf]
      simp only [if_true, Int.toNat_natCast]
      rw [if_neg (by omega)]

theorem Told.yes {ps : List Pk} {bs : List UInt8} (h : Told ps bs) (most : Int) (hm : (bs.length : Int) ≤ most) : applyL ps most = (bs, 0) := by
  obtain ⟨r, h1, _⟩ := h
  have := h1 most.toNat [] (by omega)
  rw [List.append_nil] at this
  exact this

theorem Told.no {ps : List Pk} {bs : List UInt8} (h : Told ps bs) (most : Int) (hm : most < bs.length) (hb : 0 < bs.length) : applyL ps most = ([], 11) := by
  obtain ⟨r, _, h2⟩ := h
  have := h2 most.toNat [] (by omega)
  rw [List.append_nil] at this
  exact this
end Go.Proofs.Ytalopgbkjgjppaa
