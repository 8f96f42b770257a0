/- The walks of greedy.Parse and of the document's Longest and Parse. -/
import Derived.Test.YtalopgbkjgjppaaLg
import Derived.Test.YtalopgbkjgjppaaRrp
namespace Go.Proofs.Ytalopgbkjgjppaa
open Go.RowKit Go.Cas

theorem foundGo_length (s : List UInt8) (i : Nat) (W C : Int) : ∀ f d best seen, (foundGo s i W C f d best seen).length ≤ f
  | 0, _, _, _ => Nat.le_refl _
  | f + 1, d, best, seen => by
    unfold foundGo
    split
    · split
      · split
        · have := foundGo_length s i W C f (d + 1) (aliN s (i - d) i) (seen + 1); simp; omega
        · have := foundGo_length s i W C f (d + 1) best (seen + 1); omega
      · have := foundGo_length s i W C f (d + 1) best seen; omega
    · simp

/-- The pieces of a text from a place on, before they are told as reps. -/
def parseGo (s : List UInt8) (W C : Int) : Nat → Nat → List Pk
  | 0, _ => []
  | f + 1, i =>
    if i < s.length then
      if 0 < (foundL s i W C).length then ⟨2, (lastF (foundL s i W C)).2, (lastF (foundL s i W C)).1, 0⟩ :: parseGo s W C f (i + (lastF (foundL s i W C)).1)
      else ⟨1, 0, 0, s[i]?.getD 0⟩ :: parseGo s W C f (i + 1)
    else []

def parseL (s : List UInt8) (W C : Int) : List Pk := parseGo s W C s.length 0

theorem parseGo_end (s : List UInt8) (W C : Int) (f i : Nat) (h : s.length ≤ i) : parseGo s W C f i = [] := by
  cases f with
  | zero => rfl
  | succ f => unfold parseGo; rw [if_neg (by omega)]

theorem lastF_mem (l : List (Nat × Nat)) (h : 0 < l.length) : lastF l ∈ l := List.mem_of_getElem? (last_get l h)

theorem lastF_bound (s : List UInt8) (i : Nat) (W C : Int) (h : 0 < (foundL s i W C).length) :
    1 ≤ (lastF (foundL s i W C)).1 ∧ (lastF (foundL s i W C)).1 ≤ 273 ∧ (lastF (foundL s i W C)).1 ≤ s.length - i ∧ 1 ≤ (lastF (foundL s i W C)).2 ∧ (lastF (foundL s i W C)).2 ≤ i := by
  obtain ⟨h1, h2, h3, h4⟩ := foundL_bound s i W C _ (lastF_mem _ h)
  have := aliN_le s (i - (lastF (foundL s i W C)).2) i
  omega

theorem parseGo_fuel (s : List UInt8) (W C : Int) : ∀ f i, s.length - i ≤ f → parseGo s W C f i = parseGo s W C (s.length - i) i
  | 0, i, h => by rw [Nat.le_zero.1 h]
  | f + 1, i, h => by
    by_cases hi : i < s.length
    · obtain ⟨g, hg⟩ : ∃ g, s.length - i = g + 1 := ⟨s.length - i - 1, by omega⟩
      rw [hg, parseGo, parseGo, if_pos hi, if_pos hi]
      by_cases h0 : 0 < (foundL s i W C).length
      · have hb := lastF_bound s i W C h0
        rw [if_pos h0, if_pos h0, parseGo_fuel s W C f _ (by omega), parseGo_fuel s W C g _ (by omega)]
      · rw [if_neg h0, if_neg h0, parseGo_fuel s W C f _ (by omega), parseGo_fuel s W C g _ (by omega)]
    · rw [parseGo_end _ _ _ _ _ (by omega), parseGo_end _ _ _ _ _ (by omega)]
  termination_by f => f

/-- What is left from a place on. -/
def leftP (s : List UInt8) (W C : Int) (i : Nat) : List Pk := parseGo s W C (s.length - i) i

theorem left_start (s : List UInt8) (W C : Int) : leftP s W C 0 = parseL s W C := rfl
theorem left_end (s : List UInt8) (W C : Int) (i : Nat) (h : s.length ≤ i) : leftP s W C i = [] := parseGo_end _ _ _ _ _ h
theorem left_lit (s : List UInt8) (W C : Int) (i : Nat) (h : i < s.length) (h0 : (foundL s i W C).length = 0) : leftP s W C i = ⟨1, 0, 0, s[i]?.getD 0⟩ :: leftP s W C (i + 1) := by
  unfold leftP
  obtain ⟨g, hg⟩ : ∃ g, s.length - i = g + 1 := ⟨s.length - i - 1, by omega⟩
  rw [hg, parseGo, if_pos h, if_neg (by omega), parseGo_fuel s W C g (i + 1) (by omega)]
theorem left_match (s : List UInt8) (W C : Int) (i : Nat) (h : i < s.length) (h0 : 0 < (foundL s i W C).length) :
    leftP s W C i = ⟨2, (lastF (foundL s i W C)).2, (lastF (foundL s i W C)).1, 0⟩ :: leftP s W C (i + (lastF (foundL s i W C)).1) := by
  have hb := lastF_bound s i W C h0
  unfold leftP
  obtain ⟨g, hg⟩ : ∃ g, s.length - i = g + 1 := ⟨s.length - i - 1, by omega⟩
  rw [hg, parseGo, if_pos h, if_pos h0, parseGo_fuel s W C g _ (by omega)]

set_option maxHeartbeats 2000000 in
set_option maxRecDepth 100000 in
theorem rlongest_any (s : List UInt8) (i : Nat) (W C : Int) (w : World) (hi : i < s.length) (hs : s.length ≤ 1000000) :
    Calls Try.prog 26 #[.string ⟨s.toArray⟩, i6 i, i6 W, i6 C] w fun z w' => z = .returned (.agg #[i6 (lastF (foundL s i W C)).1, i6 (lastF (foundL s i W C)).2]) ∧ Same w w' := by
  have hat := hid (rat_any s i W C)
  have hLb : (foundL s i W C).length ≤ 1000000 := by have := foundGo_length s i W C i 1 0 0; have e : (foundL s i W C).length = (foundGo s i W C i 1 0 0).length := rfl; omega
  generalize foundL s i W C = L at *
  by_cases h0 : 0 < L.length
  · have hg := last_get L h0
    obtain ⟨e1, e2⟩ := cellsF_get L _ _ hg
    generalize lastF L = x at *
    obtain ⟨n, d⟩ := x
    obtain ⟨m, hm2⟩ : ∃ m, L.length = m + 1 := ⟨L.length - 1, by omega⟩
    rw [hm2, Nat.add_sub_cancel] at e1 e2
    rw [hm2] at hLb
    clear hg
    dsimp only at e1 e2 ⊢
    go_enter Try.func26, Try.ntmps26
    go_wp2_with ((go_at_call 46; refine (hat.out _ hi hs).mono ?_; rintro z w4 ⟨r, rc, rfl, hR, hs4⟩; obtain ⟨g, rfl⟩ := hR.ex h0; have d1 := (hR.cell (m * 2) (by omega)).trans e1; have d2 := (hR.cell (m * 2 + 1) (by omega)).trans e2; rw [hm2]; have hB := Blk.keeps (Blk.new w #[i6 0, i6 0] 56) hs4 (fun h => h); have b0 := hB.cell 0; have b1 := hB.cell 1; have bf := hB.frozen; have bl := hB.lt; simp only [List.getElem?_toArray, List.getElem?_cons_succ, List.getElem?_cons_zero] at b0 b1))
    have q0 := ((hB.set 0 (i6 n)).set 1 (i6 d)).cell 0
    have q1 := ((hB.set 0 (i6 n)).set 1 (i6 d)).cell 1
    simp only [List.setIfInBounds_toArray, List.set_cons_zero, List.set_cons_succ, List.getElem?_toArray, List.getElem?_cons_succ, List.getElem?_cons_zero] at q0 q1
    refine bodyPost_ret (v := .agg #[i6 n, i6 d]) (by simp [results, Try.results26, go_sem, q0, q1]) rfl ⟨rfl, ?_⟩
    repeat (first | exact Keeps.refl _ _ | refine Keeps.drew ?_ | refine Keeps.drewN ?_ _ | refine Keeps.alloc ?_ _ | refine Keeps.setCell ?_ (by simp; try omega) _ | exact Hid.out (by assumption) | refine Keeps.trans ?_ (by assumption))
  · have h00 : L.length = 0 := by omega
    obtain rfl : L = [] := List.eq_nil_of_length_eq_zero h00
    go_enter Try.func26, Try.ntmps26
    go_wp2_with ((go_at_call 46; refine (hat.out _ hi hs).mono ?_; rintro z w4 ⟨r, rc, rfl, hR, hs4⟩; have hB := Blk.keeps (Blk.new w #[i6 0, i6 0] 56) hs4 (fun h => h); have b0 := hB.cell 0; have b1 := hB.cell 1; have bf := hB.frozen; have bl := hB.lt; simp only [List.getElem?_toArray, List.getElem?_cons_succ, List.getElem?_cons_zero] at b0 b1))
    have q0 := ((hB.set 0 (i6 0)).set 1 (i6 0)).cell 0
    have q1 := ((hB.set 0 (i6 0)).set 1 (i6 0)).cell 1
    simp only [List.setIfInBounds_toArray, List.set_cons_zero, List.set_cons_succ, List.getElem?_toArray, List.getElem?_cons_succ, List.getElem?_cons_zero] at q0 q1
    refine bodyPost_ret (v := .agg #[i6 0, i6 0]) (by simp [results, Try.results26, go_sem, q0, q1]) rfl ⟨rfl, ?_⟩
    repeat (first | exact Keeps.refl _ _ | refine Keeps.drew ?_ | refine Keeps.drewN ?_ _ | refine Keeps.alloc ?_ _ | refine Keeps.setCell ?_ (by simp; try omega) _ | exact Hid.out (by assumption) | refine Keeps.trans ?_ (by assumption))
end Go.Proofs.Ytalopgbkjgjppaa
