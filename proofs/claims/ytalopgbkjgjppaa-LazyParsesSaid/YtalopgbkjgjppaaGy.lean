/- The walk of the statement GreedyParses. -/
import Derived.Test.YtalopgbkjgjppaaGr
import Derived.Test.YtalopgbkjgjppaaLawR
namespace Go.Proofs.Ytalopgbkjgjppaa
open Go.RowKit Go.Cas

theorem parseGo_length (s : List UInt8) (W C : Int) : ∀ f i, (parseGo s W C f i).length ≤ f
  | 0, _ => Nat.le_refl _
  | f + 1, i => by
    unfold parseGo
    split
    · split
      · have := parseGo_length s W C f (i + (lastF (foundL s i W C)).1); simp; omega
      · have := parseGo_length s W C f (i + 1); simp; omega
    · simp

theorem repeatL_length (l : List Pk) : (repeatL l).length = l.length := repeatGo_length l _ _

theorem sp13_list : repeatL (parseL [97, 98, 99, 97, 98, 99, 100] 99 9) = [⟨1, 0, 0, 97⟩, ⟨1, 0, 0, 98⟩, ⟨1, 0, 0, 99⟩, ⟨2, 3, 3, 0⟩, ⟨1, 0, 0, 100⟩] := by decide +kernel

set_option maxHeartbeats 2000000 in
set_option maxRecDepth 100000 in
theorem speaks13_any (w : World) : Calls Try.prog 9 #[] w fun z w' => z = .returned (.bool true) ∧ Same w w' := by
  have HG := hid (gparse_any [97, 98, 99, 97, 98, 99, 100] 99 9 w (by decide))
  rw [sp13_list] at HG
  go_enter Try.func9, Try.ntmps9
  go_wp2_with ((go_at_call 10; refine HG.out.mono ?_; rintro z w1 ⟨q, c, rfl, hs1, hp, _⟩; obtain ⟨g, rfl⟩ := hp.ex (by decide); have a3 := hp.at 3 _ rfl; have a4 := hp.at 4 _ rfl; dsimp only at a3 a4))
  go_ret
  exact ⟨rfl, hs1⟩

set_option maxHeartbeats 4000000 in
set_option maxRecDepth 100000 in
theorem greedy_any (s0 : List UInt8) (W C : Int) (w : World) (hs0 : s0.length ≤ maxLen) :
    Calls Try.prog 3 #[.string ⟨s0.toArray⟩, i6 W, i6 C] w fun e w' => e = .returned (.bool true) ∧ Same w w' := by
  go_enter Try.func3, Try.ntmps3
  go_wp2_with fail
  refine (speaks13_any _).mono ?_
  rintro z w1 ⟨rfl, hs1⟩
  go_upto_region 3 with fail
  go_cut [0] (fun v wx => ∃ t : List UInt8, v = .string ⟨t.toArray⟩ ∧ t.length ≤ 200 ∧ Same w wx)
  case first =>
    go_wp2_with fail
    all_goals go_meet
    · exact ⟨s0.take 200, by congr 1; apply ByteArray.ext; simp, by simp; omega, hs1⟩
    · exact ⟨s0, by congr 1; apply ByteArray.ext; simp, by omega, hs1⟩
  case rest =>
    clear hs1
    obtain ⟨t, rfl, ht, hs1⟩ := hcut
    have HG := hid (gparse_any t W C wc (by omega))
    have HR := hid (fun w0 => rparse_any t W C w0 (by omega))
    have hlen : (repeatL (parseL t W C)).length ≤ 1000000000 := by
      rw [repeatL_length]
      have := parseGo_length t W C t.length 0
      have e : (parseL t W C).length = (parseGo t W C t.length 0).length := rfl
      omega
    generalize repeatL (parseL t W C) = RL at *
    go_wp2_with (first
      | (go_at_call 10; refine HG.out.mono ?_; rintro z w2 ⟨q5, c5, rfl, hs2, hA2, _⟩)
      | (go_at_call 11; refine (HR.out _).mono ?_; rintro z w6 ⟨q6, c6, rfl, hs6, hB6⟩; have hA6 := hA2.keeps hs6 (fun _ _ h => h); replace hs6 := hs2.trans hs6))
    go_loopw [9] (fun i wx => ∃ k : Nat, k ≤ RL.length ∧ i = i6 k ∧ Same w6 wx) (fun i _ => RL.length - (intOf i).toNat)
    case atStart => exact ⟨0, Nat.zero_le _, rfl, Keeps.refl _ _⟩
    case round =>
      obtain ⟨k, hk, rfl, hsm⟩ := hrel
      by_cases hlt : k < RL.length
      · obtain ⟨g, rfl⟩ := hA6.ex (by omega)
        obtain ⟨g2, rfl⟩ := hB6.ex (by omega)
        have hget : RL[k]? = some RL[k] := by simp [hlt]
        have e1 := (hA6.keeps hsm (fun _ _ h => h)).at k _ hget
        have e2 := rpks_at (hB6.same hsm) k _ hget
        generalize RL[k] = p at *
        obtain ⟨pk_, pd, pl, py⟩ := p
        dsimp only at e1 e2
        clear hget HG HR
        go_wp2_with fail
        go_quiet (fail)
        go_wp2_with fail
        exact ⟨⟨k + 1, by omega, by go_num, hsm.drewN _⟩, by simp [intOf]; omega⟩
      · obtain rfl : k = RL.length := by omega
        clear HG HR
        go_wp2_with fail
        go_ret
        exact ⟨rfl, (hs1.trans hs6).trans hsm⟩
end Go.Proofs.Ytalopgbkjgjppaa
