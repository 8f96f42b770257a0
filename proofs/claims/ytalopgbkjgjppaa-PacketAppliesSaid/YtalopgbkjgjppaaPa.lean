/- The walk of the statement PacketApplies. -/
import Derived.Test.YtalopgbkjgjppaaSp06
import Derived.Test.YtalopgbkjgjppaaRap
import Derived.Test.YtalopgbkjgjppaaRrp
import Derived.Test.YtalopgbkjgjppaaFt
import Derived.Test.YtalopgbkjgjppaaLawR
namespace Go.Proofs.Ytalopgbkjgjppaa
open Go.RowKit Go.Cas

set_option maxHeartbeats 4000000 in
set_option maxRecDepth 100000 in
theorem papplies_any (q : Option Addr) (n cap : Nat) (most : Int) (L : List Pk) (w : World) (hn : n ≤ maxLen) (hL : L.length = min n 60) (hl : OutPks w q L) (hM0 : -9223372036854775808 ≤ most) (hM : most ≤ 9223372036854775807) :
    Calls Try.prog 4 #[.slice q n cap, i6 most] w fun e w' => e = .returned (.bool true) ∧ Same w w' := by
  have hL60 : L.length ≤ 100000000 := by omega
  have hL61 : L.length ≤ 60 := by omega
  have HT := hid (fun (w1 : World) (hs : Same w w1) => told_any q n cap L w1 hn hL (fun k p hk => by
    obtain ⟨a, h1, h2, h3, h4, h5, h6⟩ := hl k p hk
    have hb : ∀ j, (a.add j).block < w.heap.size := fun j => by unfold Addr.add; split <;> exact h2
    exact ⟨a, h1, Nat.lt_of_lt_of_le h2 hs.size, (hs.cell (hb _) (fun h => h)).trans h3, (hs.cell (hb _) (fun h => h)).trans h4, (hs.cell (hb _) (fun h => h)).trans h5, (hs.cell (hb _) (fun h => h)).trans h6⟩))
  clear hl hL
  go_enter Try.func4, Try.ntmps4
  go_wp2_with fail
  refine (speaks06_any _).mono ?_
  rintro z w1 ⟨rfl, hs1⟩
  go_wp2_with fail
  refine (HT.out _ hs1).mono ?_
  rintro z w2 ⟨q1, c1, r1, d1, rfl, hA, hB, hgA, hgB, hs2⟩
  replace hs2 := hs1.trans hs2
  clear hs1 HT hgA hgB
  have HA := hid (fun w3 (h : Same w2 w3) => apply_any q1 c1 L most w3 (hA.keeps h fun _ _ h => h) hM hL60)
  have HB := hid (fun w3 (h : Same w2 w3) => rapply_any r1 d1 L most w3 (hB.same h) hM0 hM hL60)
  have HLR := repeatL_tells L most
  have HFA := fun h => fitsAll_of_apply most.toNat L [] (1, 1, 1, 1) h
  have HAL : applyL L most = applyGo most.toNat L [] (1, 1, 1, 1) := rfl
  rw [← HAL] at HFA
  clear HAL
  have HRA := hid (fun w3 (h : Same w2 w3) => repeat_any q1 c1 L w3 (hA.keeps h fun _ _ h => h) hL60)
  have HRB := hid (fun w3 (h : Same w2 w3) => rrepeat_any r1 d1 L w3 (hB.same h) hL60)
  have HFI := hid (fun w3 (h : Same w2 w3) (hf : fitsAll L 0 (1, 1, 1, 1)) => lfits_any q1 c1 r1 d1 L w3 (hA.keeps h fun _ _ h => h) (hB.same h) hL60 hf)
  have HAP := hid (fun w3 q c (h : Pks w3 q c (repeatL L)) => apply_any q c (repeatL L) most w3 h hM (by have := repeatGo_length L (1, 1, 1, 1) (1, 1, 1, 1); have e : (repeatL L).length = L.length := this; omega))
  have hlen : (repeatL L).length ≤ 60000000 := by have := repeatGo_length L (1, 1, 1, 1) (1, 1, 1, 1); have e : (repeatL L).length = L.length := this; omega
  generalize repeatL L = RL at *
  by_cases he : (applyL L most).2 = 0
  · have HLR' := HLR he
    have HFA' := HFA he
    rw [HLR'] at HAP
    generalize applyL L most = x at *
    obtain ⟨t, e⟩ := x
    dsimp only at he HA HB HAP
    subst he
    replace HFI := hid (fun w3 h => HFI.out w3 h HFA')
    clear HLR HFA HLR' HFA'
    go_wp2_with ((first
      | (go_at_call 14; refine (HA.out _ (Keeps.refl _ _)).mono ?_; rintro z w3 ⟨rfl, hs3⟩)
      | (go_at_call 15; refine (HB.out _ hs3).mono ?_; rintro z w4 ⟨rfl, hs4⟩; replace hs4 := hs3.trans hs4)
      | (go_at_call 16; refine (HRA.out _ hs4).mono ?_; rintro z w5 ⟨q5, c5, rfl, hs5, hA5, _⟩; replace hs5 := hs4.trans hs5)
      | (go_at_call 17; refine (HRB.out _ hs5).mono ?_; rintro z w6 ⟨q6, c6, rfl, hs6, hB6, _⟩; replace hA6 := hA5.keeps hs6 (fun _ _ h => h); replace hs6 := hs5.trans hs6)))
    clear HA HB HRA HRB hA hB hA5
    go_loopw [13] (fun i wx => ∃ k : Nat, k ≤ RL.length ∧ i = i6 k ∧ Same w6 wx) (fun i _ => RL.length - (intOf i).toNat)
    case atStart => exact ⟨0, Nat.zero_le _, rfl, Keeps.refl _ _⟩
    case round =>
      obtain ⟨k, hk, rfl, hsm⟩ := hrel
      by_cases hlt : k < RL.length
      · clear HAP HFI
        obtain ⟨g, rfl⟩ := hA6.ex (by omega)
        obtain ⟨g2, rfl⟩ := hB6.ex (by omega)
        have hget : RL[k]? = some RL[k] := by simp [hlt]
        have e1 := (hA6.keeps hsm (fun _ _ h => h)).at k _ hget
        have e2 := rpks_at (hB6.same hsm) k _ hget
        generalize RL[k] = p at *
        obtain ⟨pk_, pd, pl, py⟩ := p
        dsimp only at e1 e2
        clear hget
        go_wp2_with fail
        go_quiet (fail)
        go_wp2_with fail
        exact ⟨⟨k + 1, by omega, by go_num, hsm.drewN _⟩, by simp [intOf]; omega⟩
      · obtain rfl : k = RL.length := by omega
        have hA7 := hA6.keeps hsm (fun _ _ h => h)
        have hs7 := hs6.trans hsm
        clear hsm hs6
        go_wp2_with ((first
          | (go_at_call 14; refine (HAP.out _ _ _ hA7).mono ?_; rintro z w8 ⟨rfl, hs8⟩; replace hs8 := hs7.trans hs8)
          | (go_at_call 18; refine (HFI.out _ hs8).mono ?_; rintro z w9 ⟨rfl, hs9⟩)))
        go_ret
        exact ⟨rfl, (hs2.trans hs8).trans hs9⟩
  · clear HLR HFA HRA HRB HFI HAP
    generalize applyL L most = x at *
    obtain ⟨t, e⟩ := x
    dsimp only at he HA HB
    have he' : (e != 0) = true := by simpa using he
    go_wp2_with ((first
      | (go_at_call 14; refine (HA.out _ (Keeps.refl _ _)).mono ?_; rintro z w3 ⟨rfl, hs3⟩)
      | (go_at_call 15; refine (HB.out _ hs3).mono ?_; rintro z w4 ⟨rfl, hs4⟩; replace hs4 := hs3.trans hs4)))
    go_ret
    exact ⟨rfl, hs2.trans hs4⟩
end Go.Proofs.Ytalopgbkjgjppaa
