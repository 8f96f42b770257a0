/- cassonelaw06.speaks answers true. -/
import Derived.Test.YtalopgbkjgjppaaRp
namespace Go.Proofs.Ytalopgbkjgjppaa
open Go.RowKit Go.Cas

def sp06 : List Pk := [⟨1, 0, 0, 97⟩, ⟨2, 1, 3, 0⟩]
theorem sp06_apply : applyL sp06 9 = ([97, 97, 97, 97], 0) := by kernel_rfl
theorem sp06_repeat : repeatL sp06 = [⟨1, 0, 0, 97⟩, ⟨3, 0, 3, 0⟩] := by kernel_rfl

theorem Pks.lit (w : World) (cs : Array Value) (l : List Pk) (hl : l.length ≤ 100) (h : cs.toList = cellsP l) : Pks (w.alloc (.cells cs 29)) (some ⟨w.heap.size, 0, none⟩) l.length l :=
  ⟨h ▸ World.ownsRow_lit w cs l.length (Nat.zero_le _) (by unfold maxLen; omega) (by rw [← Array.length_toList, h, cellsP_length])⟩

set_option maxHeartbeats 1000000 in
theorem speaks06_any (w : World) :
    Calls Try.prog 12 #[] w fun z w' => z = .returned (.bool true) ∧ Same w w' := by
  have HP := hid (fun w : World => Pks.lit w #[i6 1, i6 0, i6 0, b8 97, i6 2, i6 1, i6 3, b8 0] sp06 (by decide) rfl)
  have HA := hid (fun (w : World) (q : Option Addr) (cap : Nat) (h : Pks w q cap sp06) => apply_any q cap sp06 9 w h (by omega) (by decide))
  have HR := hid (fun (w : World) (q : Option Addr) (cap : Nat) (h : Pks w q cap sp06) => repeat_any q cap sp06 w h (by decide))
  rw [sp06_apply] at HA
  rw [sp06_repeat] at HR
  go_enter Try.func12, Try.ntmps12
  go_wp2_with fail
  refine (HA.out _ _ _ (HP.out w)).mono ?_
  rintro z w1 ⟨rfl, hs1⟩
  have hp1 := (HP.out w).keeps hs1 (fun _ _ h => h)
  have hsm1 : Same w w1 := ((Keeps.refl _ _).alloc _).trans hs1
  clear hs1
  go_wp2_with fail
  refine (HR.out _ _ _ hp1).mono ?_
  rintro z w2 ⟨q2, c2, rfl, hs2, hp2, hg2⟩
  obtain ⟨g, rfl⟩ := hp2.ex (by decide)
  have hat := hp2.at 1 _ rfl
  go_wp2_with fail
  go_ret
  exact ⟨rfl, hsm1.trans hs2⟩
end Go.Proofs.Ytalopgbkjgjppaa
