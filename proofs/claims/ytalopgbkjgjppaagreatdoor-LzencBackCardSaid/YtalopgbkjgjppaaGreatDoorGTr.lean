/- Part of a proof: Tr, Tb, Lk. -/
import Derived.Test.YtalopgbkjgjppaaGreatDoorGRd
/- The walks of package probs: trees, the highest bit first. -/
namespace Go.Proofs.YtalopgbkjgjppaaGreatDoor
open Go.RowKit Go.Cas Go.Cas.Enc

/-- A row of probabilities in memory. -/
def rowP (f : Nat → Nat) (N : Nat) : Array Value := ((List.range N).map fun j => v16 (f j)).toArray
def updF (f : Nat → Nat) (j x : Nat) : Nat → Nat := fun k => if k = j then x else f k

theorem rowP_get (f : Nat → Nat) {N j : Nat} (hj : j < N) : (rowP f N)[j]? = some (v16 (f j)) := by simp [rowP, hj]
theorem rowP_set (f : Nat → Nat) (N j x : Nat) : (rowP f N).setIfInBounds j (v16 x) = rowP (updF f j x) N := by
  apply Array.ext_getElem?
  intro i
  rw [Array.getElem?_setIfInBounds]
  by_cases hi : i < N
  · rw [rowP_get _ hi]
    split
    · rename_i e; subst e
      simp [rowP, hi, updF]
    · rename_i e
      rw [rowP_get _ hi]
      unfold updF
      rw [if_neg (fun h => e h.symm)]
  · have h1 : (rowP f N)[i]? = none := by simp [rowP]; omega
    have h2 : (rowP (updF f j x) N)[i]? = none := by simp [rowP]; omega
    rw [h2]
    split
    · rename_i e; subst e
      simp [rowP]; omega
    · exact h1

def TreeOk (f : Nat → Nat) (N : Nat) : Prop := ∀ j, j < N → okPr (f j)
theorem TreeOk.upd {f : Nat → Nat} {N : Nat} (h : TreeOk f N) (j b : Nat) (hj : j < N) : TreeOk (updF f j (learnP (f j) b)) N := by
  intro k hk
  unfold updF
  split
  · exact learnP_ok (h j hj) b
  · exact h k hk

/-- A number of n bits by a tree, the highest bit first: where it ends, the coder, the row. -/
def treeR (v : Nat) : Nat → Nat → Cdr → (Nat → Nat) → Nat × Cdr × (Nat → Nat)
  | 0, m, C, f => (m, C, f)
  | n + 1, m, C, f => treeR v n (2 * m + (C.bit (f m) (v / 2 ^ n % 2)).1) (C.bit (f m) (v / 2 ^ n % 2)).2 (updF f m (learnP (f m) (C.bit (f m) (v / 2 ^ n % 2)).1))

set_option maxHeartbeats 1000000 in
theorem tbits_any (q : Option Addr) (n cap : Nat) (w : World) (hn : n ≤ 16) :
    Calls Tryz.prog 129 #[.slice q (2 ^ n) cap] w fun z w' => z = .returned (i6 n) ∧ w' = w := by
  obtain ⟨N, hN⟩ : ∃ N, 2 ^ n = N := ⟨_, rfl⟩
  rw [hN]
  have HN := hid hN
  clear hN
  go_enter Tryz.func129, Tryz.ntmps129
  go_wp2_with fail
  go_loop [3] (fun s3 => ∃ k : Nat, s3 = i6 k ∧ k ≤ n) (fun s3 => n - (intOf s3).toNat)
  case atStart => exact ⟨0, rfl, Nat.zero_le _⟩
  case round =>
    obtain ⟨k, rfl, hk⟩ := hrel
    by_cases hlt : k < n
    · have h1 : 2 ^ k < N := by rw [← HN.out]; exact Nat.pow_lt_pow_right (by decide) hlt
      have h0 : N ≤ 65536 := by rw [← HN.out]; exact Nat.pow_le_pow_right (by decide) hn
      obtain ⟨K, hK⟩ : ∃ K : Nat, 2 ^ k = K := ⟨_, rfl⟩
      rw [hK] at h1
      have e1 : (2 : Int) ^ k = (K : Int) := by rw [← hK]; push_cast; rfl
      have d0 : decide ((K : Int) < (N : Int)) = true := by simpa using h1
      have d1 : decide (K < N) = true := by simpa using h1
      go_wp2_with fail
      exact ⟨⟨k + 1, by go_num, hlt⟩, by simp [intOf]; omega⟩
    · obtain rfl : k = n := by omega
      have h0 : N ≤ 65536 := by rw [← HN.out]; exact Nat.pow_le_pow_right (by decide) hn
      have e1 : (2 : Int) ^ k = (N : Int) := by rw [← HN.out]; push_cast; rfl
      have d0 : decide ((N : Int) < (N : Int)) = false := by simp
      have d1 : decide (N < N) = false := by simp
      clear hlt
      go_wp2_with fail
      go_ret
      exact ⟨rfl, rfl⟩

/-- A row's place within bounds, the highest bit first: m bits were told ahead. -/
theorem place_lt {n i m : Nat} (hi : i + 1 ≤ n) (hm : m < 2 ^ (n - (i + 1) + 1)) : m < 2 ^ n := Nat.lt_of_lt_of_le hm (Nat.pow_le_pow_right (by decide) (by omega))
theorem place_next {n i m b : Nat} (hi : i + 1 ≤ n) (hm : m < 2 ^ (n - (i + 1) + 1)) (hb : b ≤ 1) : 2 * m + b < 2 ^ (n - i + 1) := by
  have e : 2 ^ (n - i + 1) = 2 * 2 ^ (n - (i + 1) + 1) := by rw [show n - i + 1 = (n - (i + 1) + 1) + 1 from by omega, Nat.pow_succ]; omega
  omega

abbrev T16 : TypeId := 121

/-- What a number by a tree leaves. -/
def TreeLeft (w w' : World) (z : Ending) (v : Value) (x : Nat) (C : Cdr) (F : Nat → Prop) (g N : Nat) (f : Nat → Nat) : Prop := CodeLeft w w' z v x C F g (rowP f N) T16

set_option maxHeartbeats 8000000 in
set_option maxRecDepth 100000 in
theorem tput_any (x cap0 : Nat) (E : Enc) (q : Option Addr) (g n N v cap : Nat) (f : Nat → Nat) (w : World) (h : Enw w x E q cap0) (hg : Enc.Good E) (hn16 : n ≤ 16) (hN : 2 ^ n ≤ N) (hcnt : E.n + 4 * n ≤ 1000000000)
    (hv : v < 4294967296) (hB : Blk w g (rowP f N) T16) (hok : TreeOk f N) (hge : ¬ winF x q g) :
    Calls Tryz.prog 139 #[.slice (some ⟨g, 0, none⟩) (2 ^ n) cap, .pointer (some ⟨x, 0, none⟩), i6 v] w fun z w' =>
      TreeLeft w w' z (.tuple #[]) x (treeR v n 1 (.enc E) f).2.1 (winF x q) g N (treeR v n 1 (.enc E) f).2.2 := by
  obtain ⟨R, hR⟩ : ∃ R, treeR v n 1 (.enc E) f = R := ⟨_, rfl⟩
  rw [hR]
  have HBt := hid (fun w0 => tbits_any (some ⟨g, 0, none⟩) n cap w0 hn16)
  obtain ⟨L, hL⟩ : ∃ L, 2 ^ n = L := ⟨_, rfl⟩
  have hw1 : IntKind.i64.wrap ((n : Int) - 1) = (n : Int) - 1 := IntWalk.i64_in _ (by omega)
  have hL2 : L ≤ 65536 := by rw [← hL]; exact Nat.pow_le_pow_right (by decide) hn16
  rw [hL] at HBt hN ⊢
  have HL := hid hL
  clear hL
  go_enter Tryz.func139, Tryz.ntmps139
  go_wp2_with (go_at_call 129; refine (HBt.out _).mono ?_; rintro z w1 ⟨rfl, rfl⟩)
  go_loopw [6, 7] (fun s6 s7 wr => ∃ (i m : Nat) (E1 : Enc) (q1 : Option Addr) (c1 : Nat) (f1 : Nat → Nat), s6 = i6 m ∧ s7 = i6 ((i : Int) - 1) ∧ i ≤ n ∧ m < 2 ^ (n - i + 1) ∧ Enw wr x E1 q1 c1 ∧ Enc.Good E1 ∧ E1.n + 4 * i ≤ 1000000000 ∧ TreeOk f1 N ∧
    treeR v i m (.enc E1) f1 = R ∧ Blk wr g (rowP f1 N) T16 ∧ Keeps (fun k => winF x q k ∨ k = g) w1 wr ∧ (∀ k, winF x q1 k → winF x q k ∨ w1.heap.size ≤ k)) (fun _ s7 _ => (intOf s7 + 1).toNat)
  case atStart => exact ⟨n, 1, E, q, cap0, f, rfl, rfl, Nat.le_refl _, by rw [Nat.sub_self]; decide, h, hg, hcnt, hok, hR, hB, Keeps.refl _ _, fun _ h => .inl h⟩
  case round =>
    clear h hg hcnt hok hR hw1
    obtain ⟨i, m, E1, q1, c1, f1, rfl, rfl, hin, hm, hE, hgd, hcnt, hok, hfin, hB1, hK, hG⟩ := hrel
    have hg1 : ¬ winF x q1 g := fun e => by
      rcases hG g e with e | e
      · exact hge e
      · have := hB.lt; omega
    by_cases hi0 : i = 0
    · subst hi0
      have d0 : decide ((((0 : Nat) : Int) - 1) ≥ 0) = false := by decide
      go_wp2_with fail
      go_end0
      have hfin' : (m, Cdr.enc E1, f1) = R := hfin
      subst hfin'
      exact ⟨rfl, winF x q1, ⟨q1, c1, hE, rfl⟩, hK, hG, hB1⟩
    · obtain ⟨i, rfl⟩ : ∃ i', i = i' + 1 := ⟨i - 1, by omega⟩
      have ei : ((i + 1 : Nat) : Int) - 1 = (i : Int) := by omega
      rw [ei]
      have d0 : decide ((i : Int) ≥ 0) = true := by simp
      have hml : m < L := by rw [← HL.out]; exact place_lt hin hm
      obtain ⟨vi, hvi⟩ : ∃ vi, v / 2 ^ i = vi := ⟨_, rfl⟩
      have e1 : (v : Int) / 2 ^ i = (vi : Int) := by rw [← hvi]; push_cast; rfl
      have hvl : vi < 4294967296 := by rw [← hvi]; exact Nat.lt_of_le_of_lt (Nat.div_le_self _ _) hv
      obtain ⟨b, hb⟩ : ∃ b, vi % 2 = b := ⟨_, rfl⟩
      have e2 := and1_i64 vi (by omega)
      rw [hb] at e2
      have hb1 : b ≤ 1 := by omega
      have hmn := place_next hin hm hb1
      obtain ⟨m2, hm2⟩ : ∃ m2, 2 * m = m2 := ⟨_, rfl⟩
      obtain ⟨m3, hm3⟩ : ∃ m3, m2 + b = m3 := ⟨_, rfl⟩
      have e4 : (m : Int) * 2 = (m2 : Int) := by omega
      have e5 : bits BinOp.or IntKind.i64 (m2 : Int) (b : Int) = (m3 : Int) := by
        have := or_i64 m2 b (by omega) (by omega)
        rw [← hm2, or_bit hb1, hm2, hm3] at this
        exact this
      have hi31 : i < 16 := by omega
      have HBit := hid (ebit_any x c1 E1 q1 g m (f1 m) b (rowP f1 N) T16 wr hE hgd (by omega) (hok m (by omega)) hb1 hB1 (rowP_get f1 (by omega)) hg1)
      rw [rowP_set] at HBit
      have hstep : treeR v (i + 1) m (.enc E1) f1 = treeR v i (2 * m + b) (.enc (E1.bit (f1 m) b)) (updF f1 m (learnP (f1 m) b)) := by
        rw [treeR, hvi, hb]; rfl
      rw [hstep] at hfin
      have hnb := bit_n E1 (f1 m) b
      have HX := hid (And.intro hfin (And.intro hmn (And.intro (bit_step hgd (hok m (by omega)) b).1 (And.intro (hok.upd m b (by omega)) (And.intro hK hG)))))
      have HM := hid (And.intro hm2 (And.intro hm3 (And.intro hin (And.intro hnb hcnt))))
      clear hfin hmn hE hgd hok hK hG hstep hB1 hg1 hm hin hi0 ei hnb hcnt hm2 hm3 hb hvi
      go_wp2_with (go_at_call 136; refine HBit.out.mono ?_; rintro z w3 ⟨rfl, F3, ⟨q3, c3, hE3, rfl⟩, hK3, hG3, hB3⟩)
      obtain ⟨hfin, hmn, hgd, hok, hK, hG⟩ := HX.out
      obtain ⟨hm2, hm3, hin, hnb, hcnt⟩ := HM.out
      have hS2 : StepLeft wr w3 x (.enc (E1.bit (f1 m) b)) (winF x q1) g (rowP (updF f1 m (learnP (f1 m) b)) N) T16 := ⟨winF x q3, ⟨q3, c3, hE3, rfl⟩, hK3, hG3, hB3⟩
      have hSt := StepLeft.trans (w := w1) hK hG hS2
      obtain ⟨F4, ⟨q4, c4, hE4, rfl⟩, hK4, hG4, hB4⟩ := hSt
      exact ⟨⟨i, m3, _, q4, c4, _, rfl, by go_num, by omega, by omega, hE4, hgd, by omega, hok, by rw [← hm3, ← hm2]; exact hfin, hB4, hK4, hG4⟩, by simp [intOf]⟩

theorem dec_bit_le (D : Dec) (p : Nat) : (D.bit p).1 ≤ 1 := by unfold Dec.bit; split <;> simp

set_option maxHeartbeats 8000000 in
set_option maxRecDepth 100000 in
theorem tget_any (x : Nat) (D : Dec) (g n N v cap : Nat) (f : Nat → Nat) (w : World) (h : Dcw w x D) (hd : DecOk D) (hn16 : n ≤ 16) (hN : 2 ^ n ≤ N)
    (hB : Blk w g (rowP f N) T16) (hok : TreeOk f N) (hge : g ≠ x) :
    Calls Tryz.prog 153 #[.slice (some ⟨g, 0, none⟩) (2 ^ n) cap, .pointer (some ⟨x, 0, none⟩)] w fun z w' =>
      TreeLeft w w' z (i6 ((treeR v n 1 (.dec D) f).1 - 2 ^ n)) x (treeR v n 1 (.dec D) f).2.1 (fun k => k = x) g N (treeR v n 1 (.dec D) f).2.2 := by
  obtain ⟨R, hR⟩ : ∃ R, treeR v n 1 (.dec D) f = R := ⟨_, rfl⟩
  rw [hR]
  have HBt := hid (fun w0 => tbits_any (some ⟨g, 0, none⟩) n cap w0 hn16)
  obtain ⟨L, hL⟩ : ∃ L, 2 ^ n = L := ⟨_, rfl⟩
  have hL2 : L ≤ 65536 := by rw [← hL]; exact Nat.pow_le_pow_right (by decide) hn16
  have eL : (2 : Int) ^ n = (L : Int) := by rw [← hL]; push_cast; rfl
  rw [eL]
  rw [hL] at HBt hN ⊢
  have HL := hid hL
  clear hL
  go_enter Tryz.func153, Tryz.ntmps153
  go_wp2_with (go_at_call 129; refine (HBt.out _).mono ?_; rintro z w1 ⟨rfl, rfl⟩)
  go_loopw [5, 10] (fun s5 s10 wr => ∃ (i j m : Nat) (D1 : Dec) (f1 : Nat → Nat), s5 = i6 m ∧ s10 = i6 j ∧ i + j = n ∧ m < 2 ^ (n - i + 1) ∧ Dcw wr x D1 ∧ DecOk D1 ∧ TreeOk f1 N ∧
    treeR v i m (.dec D1) f1 = R ∧ Blk wr g (rowP f1 N) T16 ∧ Keeps (fun k => k = x ∨ k = g) w1 wr) (fun _ s10 _ => n - (intOf s10).toNat)
  case atStart => exact ⟨n, 0, 1, D, f, rfl, rfl, rfl, by rw [Nat.sub_self]; decide, h, hd, hok, hR, hB, Keeps.refl _ _⟩
  case round =>
    clear h hd hok hR hB
    obtain ⟨i, j, m, D1, f1, rfl, rfl, hij, hm, hD, hd, hok, hfin, hB, hK⟩ := hrel
    by_cases hi0 : i = 0
    · subst hi0
      obtain rfl : j = n := by omega
      have d0 : decide ((j : Int) < (j : Int)) = false := by simp
      have hfin' : (m, Cdr.dec D1, f1) = R := hfin
      have hm2 : m < 2 * L := by rw [← HL.out]; have : 2 ^ (j - 0 + 1) = 2 * 2 ^ j := by rw [Nat.sub_zero, Nat.pow_succ]; omega
                                 omega
      have hsub : IntKind.i64.wrap ((m : Int) - (L : Int)) = (m : Int) - (L : Int) := IntWalk.i64_in _ (by omega)
      clear hfin
      go_wp2_with fail
      go_ret
      subst hfin'
      exact ⟨rfl, fun k => k = x, ⟨hD, rfl⟩, hK, fun k hk => .inl hk, hB⟩
    · obtain ⟨i, rfl⟩ : ∃ i', i = i' + 1 := ⟨i - 1, by omega⟩
      have hin : i + 1 ≤ n := by omega
      have hlt : j < n := by omega
      have d0 : decide ((j : Int) < (n : Int)) = true := by simpa using hlt
      have hml : m < L := by rw [← HL.out]; exact place_lt hin hm
      obtain ⟨b, hb⟩ : ∃ b, (D1.bit (f1 m)).1 = b := ⟨_, rfl⟩
      obtain ⟨D2, hD2⟩ : ∃ D2, (D1.bit (f1 m)).2 = D2 := ⟨_, rfl⟩
      have hb1 : b ≤ 1 := by rw [← hb]; exact dec_bit_le _ _
      have hmn := place_next hin hm hb1
      obtain ⟨m2, hm2⟩ : ∃ m2, 2 * m = m2 := ⟨_, rfl⟩
      obtain ⟨m3, hm3⟩ : ∃ m3, m2 + b = m3 := ⟨_, rfl⟩
      have e4 : (m : Int) * 2 = (m2 : Int) := by omega
      have e5 : bits BinOp.or IntKind.i64 (m2 : Int) (b : Int) = (m3 : Int) := by
        have := or_i64 m2 b (by omega) (by omega)
        rw [← hm2, or_bit hb1, hm2, hm3] at this
        exact this
      have HBit := hid (dbit_any x D1 g m (f1 m) (rowP f1 N) T16 wr hD hd (hok m (by omega)) hB (rowP_get f1 (by omega)) hge)
      rw [hb, hD2, rowP_set] at HBit
      have hok2 := dec_bit_ok hd (hok m (by omega))
      rw [hD2] at hok2
      have hstep : treeR v (i + 1) m (.dec D1) f1 = treeR v i (2 * m + b) (.dec D2) (updF f1 m (learnP (f1 m) b)) := by
        rw [treeR, ← hb, ← hD2]; rfl
      rw [hstep] at hfin
      have HX := hid (And.intro hfin (And.intro hmn (And.intro hok2 (And.intro (hok.upd m b (by omega)) hK))))
      have HM := hid (And.intro hm2 (And.intro hm3 (And.intro hin hij)))
      clear hfin hmn hD hd hok hK hstep hB hm hin hi0 hm2 hm3 hb hD2 hij hok2
      go_wp2_with (go_at_call 150; refine HBit.out.mono ?_; rintro z w3 ⟨rfl, F3, ⟨hD3, rfl⟩, hK3, hG3, hB3⟩)
      obtain ⟨hfin, hmn, hgd, hok, hK⟩ := HX.out
      obtain ⟨hm2, hm3, hin, hij⟩ := HM.out
      exact ⟨⟨i, j + 1, m3, D2, _, rfl, by go_num, by omega, by omega, hD3, hgd, hok, by rw [← hm3, ← hm2]; exact hfin, hB3, hK.trans hK3⟩, by simp [intOf]; omega⟩
end Go.Proofs.YtalopgbkjgjppaaGreatDoor

/- The walks of package probs: trees, the lowest bit first. -/
namespace Go.Proofs.YtalopgbkjgjppaaGreatDoor
open Go.RowKit Go.Cas Go.Cas.Enc

/-- A number by a tree, the lowest bit first: what was told, the coder, the row. -/
def backR (v : Nat) : Nat → Nat → Nat → Nat → Cdr → (Nat → Nat) → Nat × Cdr × (Nat → Nat)
  | 0, _, _, acc, C, f => (acc, C, f)
  | k + 1, i, m, acc, C, f => backR v k (i + 1) (2 * m + (C.bit (f m) (v / 2 ^ i % 2)).1) (acc + (C.bit (f m) (v / 2 ^ i % 2)).1 * 2 ^ i) (C.bit (f m) (v / 2 ^ i % 2)).2 (updF f m (learnP (f m) (C.bit (f m) (v / 2 ^ i % 2)).1))

theorem back_lt {n i m : Nat} (hi : i < n) (hm : m < 2 ^ (i + 1)) : m < 2 ^ n := Nat.lt_of_lt_of_le hm (Nat.pow_le_pow_right (by decide) (by omega))
theorem back_next {i m b : Nat} (hm : m < 2 ^ (i + 1)) (hb : b ≤ 1) : 2 * m + b < 2 ^ (i + 1 + 1) := by
  have e : 2 ^ (i + 1 + 1) = 2 * 2 ^ (i + 1) := by rw [Nat.pow_succ]; omega
  omega

set_option maxHeartbeats 8000000 in
set_option maxRecDepth 100000 in
theorem tputb_any (x cap0 : Nat) (E : Enc) (q : Option Addr) (g n N v cap : Nat) (f : Nat → Nat) (w : World) (h : Enw w x E q cap0) (hg : Enc.Good E) (hn16 : n ≤ 16) (hN : 2 ^ n ≤ N) (hcnt : E.n + 4 * n ≤ 1000000000)
    (hv : v < 4294967296) (hB : Blk w g (rowP f N) T16) (hok : TreeOk f N) (hge : ¬ winF x q g) :
    Calls Tryz.prog 135 #[.slice (some ⟨g, 0, none⟩) (2 ^ n) cap, .pointer (some ⟨x, 0, none⟩), i6 v] w fun z w' =>
      TreeLeft w w' z (.tuple #[]) x (backR v n 0 1 0 (.enc E) f).2.1 (winF x q) g N (backR v n 0 1 0 (.enc E) f).2.2 := by
  obtain ⟨R, hR⟩ : ∃ R, backR v n 0 1 0 (.enc E) f = R := ⟨_, rfl⟩
  rw [hR]
  have HBt := hid (fun w0 => tbits_any (some ⟨g, 0, none⟩) n cap w0 hn16)
  obtain ⟨L, hL⟩ : ∃ L, 2 ^ n = L := ⟨_, rfl⟩
  have hL2 : L ≤ 65536 := by rw [← hL]; exact Nat.pow_le_pow_right (by decide) hn16
  rw [hL] at HBt hN ⊢
  have HL := hid hL
  clear hL
  go_enter Tryz.func135, Tryz.ntmps135
  go_wp2_with (go_at_call 129; refine (HBt.out _).mono ?_; rintro z w1 ⟨rfl, rfl⟩)
  go_loopw [6, 11] (fun s6 s11 wr => ∃ (k i m acc : Nat) (E1 : Enc) (q1 : Option Addr) (c1 : Nat) (f1 : Nat → Nat), s6 = i6 m ∧ s11 = i6 i ∧ k + i = n ∧ m < 2 ^ (i + 1) ∧ Enw wr x E1 q1 c1 ∧ Enc.Good E1 ∧ E1.n + 4 * k ≤ 1000000000 ∧ TreeOk f1 N ∧
    backR v k i m acc (.enc E1) f1 = R ∧ Blk wr g (rowP f1 N) T16 ∧ Keeps (fun k => winF x q k ∨ k = g) w1 wr ∧ (∀ k, winF x q1 k → winF x q k ∨ w1.heap.size ≤ k)) (fun _ s11 _ => n - (intOf s11).toNat)
  case atStart => exact ⟨n, 0, 1, 0, E, q, cap0, f, rfl, rfl, rfl, by decide, h, hg, hcnt, hok, hR, hB, Keeps.refl _ _, fun _ h => .inl h⟩
  case round =>
    clear h hg hcnt hok hR
    obtain ⟨k, i, m, acc, E1, q1, c1, f1, rfl, rfl, hki, hm, hE, hgd, hcnt, hok, hfin, hB1, hK, hG⟩ := hrel
    have hg1 : ¬ winF x q1 g := fun e => by
      rcases hG g e with e | e
      · exact hge e
      · have := hB.lt; omega
    by_cases hk0 : k = 0
    · subst hk0
      obtain rfl : i = n := by omega
      have d0 : decide ((i : Int) < (i : Int)) = false := by simp
      have hfin' : (acc, Cdr.enc E1, f1) = R := hfin
      clear hfin
      go_wp2_with fail
      go_end0
      subst hfin'
      exact ⟨rfl, winF x q1, ⟨q1, c1, hE, rfl⟩, hK, hG, hB1⟩
    · obtain ⟨k, rfl⟩ : ∃ k', k = k' + 1 := ⟨k - 1, by omega⟩
      have hlt : i < n := by omega
      have d0 : decide ((i : Int) < (n : Int)) = true := by simpa using hlt
      have hml : m < L := by rw [← HL.out]; exact back_lt hlt hm
      obtain ⟨vi, hvi⟩ : ∃ vi, v / 2 ^ i = vi := ⟨_, rfl⟩
      have e1 : (v : Int) / 2 ^ i = (vi : Int) := by rw [← hvi]; push_cast; rfl
      have hvl : vi < 4294967296 := by rw [← hvi]; exact Nat.lt_of_le_of_lt (Nat.div_le_self _ _) hv
      obtain ⟨b, hb⟩ : ∃ b, vi % 2 = b := ⟨_, rfl⟩
      have e2 := and1_i64 vi (by omega)
      rw [hb] at e2
      have hb1 : b ≤ 1 := by omega
      have hmn := back_next hm hb1
      obtain ⟨m2, hm2⟩ : ∃ m2, 2 * m = m2 := ⟨_, rfl⟩
      obtain ⟨m3, hm3⟩ : ∃ m3, m2 + b = m3 := ⟨_, rfl⟩
      have e4 : (m : Int) * 2 = (m2 : Int) := by omega
      have e5 : bits BinOp.or IntKind.i64 (m2 : Int) (b : Int) = (m3 : Int) := by
        have := or_i64 m2 b (by omega) (by omega)
        rw [← hm2, or_bit hb1, hm2, hm3] at this
        exact this
      have hi31 : i < 16 := by omega
      have HBit := hid (ebit_any x c1 E1 q1 g m (f1 m) b (rowP f1 N) T16 wr hE hgd (by omega) (hok m (by omega)) hb1 hB1 (rowP_get f1 (by omega)) hg1)
      rw [rowP_set] at HBit
      have hstep : backR v (k + 1) i m acc (.enc E1) f1 = backR v k (i + 1) (2 * m + b) (acc + b * 2 ^ i) (.enc (E1.bit (f1 m) b)) (updF f1 m (learnP (f1 m) b)) := by
        rw [backR, hvi, hb]; rfl
      rw [hstep] at hfin
      have hnb := bit_n E1 (f1 m) b
      have HX := hid (And.intro hfin (And.intro hmn (And.intro (bit_step hgd (hok m (by omega)) b).1 (And.intro (hok.upd m b (by omega)) (And.intro hK hG)))))
      have HM := hid (And.intro hm2 (And.intro hm3 (And.intro hki (And.intro hnb hcnt))))
      clear hfin hmn hE hgd hok hK hG hstep hB1 hg1 hm hki hk0 hnb hcnt hm2 hm3 hb hvi
      go_wp2_with (go_at_call 136; refine HBit.out.mono ?_; rintro z w3 ⟨rfl, F3, ⟨q3, c3, hE3, rfl⟩, hK3, hG3, hB3⟩)
      obtain ⟨hfin, hmn, hgd, hok, hK, hG⟩ := HX.out
      obtain ⟨hm2, hm3, hki, hnb, hcnt⟩ := HM.out
      have hS2 : StepLeft wr w3 x (.enc (E1.bit (f1 m) b)) (winF x q1) g (rowP (updF f1 m (learnP (f1 m) b)) N) T16 := ⟨winF x q3, ⟨q3, c3, hE3, rfl⟩, hK3, hG3, hB3⟩
      have hSt := StepLeft.trans (w := w1) hK hG hS2
      obtain ⟨F4, ⟨q4, c4, hE4, rfl⟩, hK4, hG4, hB4⟩ := hSt
      exact ⟨⟨k, i + 1, m3, acc + b * 2 ^ i, _, q4, c4, _, rfl, by go_num, by omega, by omega, hE4, hgd, by omega, hok, by rw [← hm3, ← hm2]; exact hfin, hB4, hK4, hG4⟩, by simp [intOf]; omega⟩

theorem back_acc {acc b i : Nat} (hb : b ≤ 1) (ha : acc < 2 ^ i) : acc + b * 2 ^ i < 2 ^ (i + 1) := by
  have e : 2 ^ (i + 1) = 2 * 2 ^ i := by rw [Nat.pow_succ]; omega
  have : b * 2 ^ i ≤ 1 * 2 ^ i := Nat.mul_le_mul_right _ hb
  omega

set_option maxHeartbeats 8000000 in
set_option maxRecDepth 100000 in
theorem tgetb_any (x : Nat) (D : Dec) (g n N v cap : Nat) (f : Nat → Nat) (w : World) (h : Dcw w x D) (hd : DecOk D) (hn16 : n ≤ 16) (hN : 2 ^ n ≤ N)
    (hB : Blk w g (rowP f N) T16) (hok : TreeOk f N) (hge : g ≠ x) :
    Calls Tryz.prog 149 #[.slice (some ⟨g, 0, none⟩) (2 ^ n) cap, .pointer (some ⟨x, 0, none⟩)] w fun z w' =>
      TreeLeft w w' z (i6 (backR v n 0 1 0 (.dec D) f).1) x (backR v n 0 1 0 (.dec D) f).2.1 (fun k => k = x) g N (backR v n 0 1 0 (.dec D) f).2.2 := by
  obtain ⟨R, hR⟩ : ∃ R, backR v n 0 1 0 (.dec D) f = R := ⟨_, rfl⟩
  rw [hR]
  have HBt := hid (fun w0 => tbits_any (some ⟨g, 0, none⟩) n cap w0 hn16)
  obtain ⟨L, hL⟩ : ∃ L, 2 ^ n = L := ⟨_, rfl⟩
  have hL2 : L ≤ 65536 := by rw [← hL]; exact Nat.pow_le_pow_right (by decide) hn16
  rw [hL] at HBt hN ⊢
  have HL := hid hL
  clear hL
  go_enter Tryz.func149, Tryz.ntmps149
  go_wp2_with (go_at_call 129; refine (HBt.out _).mono ?_; rintro z w1 ⟨rfl, rfl⟩)
  go_loopw [5, 6, 11] (fun s5 s6 s11 wr => ∃ (k i m acc : Nat) (D1 : Dec) (f1 : Nat → Nat), s5 = i6 m ∧ s6 = i6 acc ∧ s11 = i6 i ∧ k + i = n ∧ m < 2 ^ (i + 1) ∧ acc < 2 ^ i ∧ Dcw wr x D1 ∧ DecOk D1 ∧ TreeOk f1 N ∧
    backR v k i m acc (.dec D1) f1 = R ∧ Blk wr g (rowP f1 N) T16 ∧ Keeps (fun k => k = x ∨ k = g) w1 wr) (fun _ _ s11 _ => n - (intOf s11).toNat)
  case atStart => exact ⟨n, 0, 1, 0, D, f, rfl, rfl, rfl, rfl, (show 1 < 2 ^ (0 + 1) by decide), (show 0 < 2 ^ 0 by decide), h, hd, hok, hR, hB, Keeps.refl _ _⟩
  case round =>
    clear h hd hok hR hB
    obtain ⟨k, i, m, acc, D1, f1, rfl, rfl, rfl, hki, hm, hacc, hD, hd, hok, hfin, hB, hK⟩ := hrel
    by_cases hk0 : k = 0
    · subst hk0
      obtain rfl : i = n := by omega
      have d0 : decide ((i : Int) < (i : Int)) = false := by simp
      have hfin' : (acc, Cdr.dec D1, f1) = R := hfin
      clear hfin
      go_wp2_with fail
      go_ret
      subst hfin'
      exact ⟨rfl, fun k => k = x, ⟨hD, rfl⟩, hK, fun k hk => .inl hk, hB⟩
    · obtain ⟨k, rfl⟩ : ∃ k', k = k' + 1 := ⟨k - 1, by omega⟩
      have hlt : i < n := by omega
      have d0 : decide ((i : Int) < (n : Int)) = true := by simpa using hlt
      have hml : m < L := by rw [← HL.out]; exact back_lt hlt hm
      obtain ⟨b, hb⟩ : ∃ b, (D1.bit (f1 m)).1 = b := ⟨_, rfl⟩
      obtain ⟨D2, hD2⟩ : ∃ D2, (D1.bit (f1 m)).2 = D2 := ⟨_, rfl⟩
      have hb1 : b ≤ 1 := by rw [← hb]; exact dec_bit_le _ _
      have hmn := back_next hm hb1
      have haccn := back_acc hb1 hacc
      obtain ⟨m2, hm2⟩ : ∃ m2, 2 * m = m2 := ⟨_, rfl⟩
      obtain ⟨m3, hm3⟩ : ∃ m3, m2 + b = m3 := ⟨_, rfl⟩
      have e4 : (m : Int) * 2 = (m2 : Int) := by omega
      have e5 : bits BinOp.or IntKind.i64 (m2 : Int) (b : Int) = (m3 : Int) := by
        have := or_i64 m2 b (by omega) (by omega)
        rw [← hm2, or_bit hb1, hm2, hm3] at this
        exact this
      have hpi : (2 : Nat) ^ i ≤ 2 ^ 16 := Nat.pow_le_pow_right (by decide) (by omega)
      obtain ⟨bi, hbi⟩ : ∃ bi, b * 2 ^ i = bi := ⟨_, rfl⟩
      have hbil : bi ≤ 65536 := by rw [← hbi]; have : b * 2 ^ i ≤ 1 * 2 ^ i := Nat.mul_le_mul_right _ hb1
                                   omega
      obtain ⟨a3, ha3⟩ : ∃ a3, acc + bi = a3 := ⟨_, rfl⟩
      have e6 : (b : Int) * 2 ^ i = (bi : Int) := by rw [← hbi]; push_cast; rfl
      have e7 : bits BinOp.or IntKind.i64 (acc : Int) (bi : Int) = (a3 : Int) := by
        rw [or_i64 acc bi (by omega) (by omega), ← hbi, Nat.or_comm, or_join hacc, hbi, Nat.add_comm, ha3]
      have hi16 : i < 16 := by omega
      have HBit := hid (dbit_any x D1 g m (f1 m) (rowP f1 N) T16 wr hD hd (hok m (by omega)) hB (rowP_get f1 (by omega)) hge)
      rw [hb, hD2, rowP_set] at HBit
      have hok2 := dec_bit_ok hd (hok m (by omega))
      rw [hD2] at hok2
      have hstep : backR v (k + 1) i m acc (.dec D1) f1 = backR v k (i + 1) (2 * m + b) (acc + b * 2 ^ i) (.dec D2) (updF f1 m (learnP (f1 m) b)) := by
        rw [backR, ← hb, ← hD2]; rfl
      rw [hstep] at hfin
      have HX := hid (And.intro hfin (And.intro hmn (And.intro hok2 (And.intro (hok.upd m b (by omega)) (And.intro hK haccn)))))
      have HM := hid (And.intro hm2 (And.intro hm3 (And.intro hki (And.intro hbi ha3))))
      have hal : acc ≤ 65536 := by omega
      clear hfin hmn hD hd hok hK hstep hB hm hki hk0 hm2 hm3 hb hD2 hok2 hacc haccn hbi ha3 hpi
      go_wp2_with (go_at_call 150; refine HBit.out.mono ?_; rintro z w3 ⟨rfl, F3, ⟨hD3, rfl⟩, hK3, hG3, hB3⟩)
      obtain ⟨hfin, hmn, hgd, hok, hK, haccn⟩ := HX.out
      obtain ⟨hm2, hm3, hki, hbi, ha3⟩ := HM.out
      exact ⟨⟨k, i + 1, m3, a3, D2, _, rfl, rfl, by go_num, by omega, by omega, by omega, hD3, hgd, hok, by rw [← hm3, ← hm2, ← ha3, ← hbi]; exact hfin, hB3, hK.trans hK3⟩, by simp [intOf]; omega⟩
end Go.Proofs.YtalopgbkjgjppaaGreatDoor

/- The walks of package probs: a byte beside another one. -/
namespace Go.Proofs.YtalopgbkjgjppaaGreatDoor
open Go.RowKit Go.Cas Go.Cas.Enc

/-- A byte's bits beside another byte: its place, whether they are alike so far (256 or 0), the other one shifted. -/
def likeI (pl hf ot : Nat) : Nat := hf + (if hf = 256 then ot * 2 / 256 % 2 * 256 else 0) + pl
def likeH (hf ot b : Nat) : Nat := if b * 256 = ot * 2 / 256 % 2 * 256 then hf else 0
def likeR (v : Nat) : Nat → Nat → Nat → Nat → Cdr → (Nat → Nat) → Nat × Cdr × (Nat → Nat)
  | 0, pl, _, _, C, f => (pl, C, f)
  | k + 1, pl, hf, ot, C, f =>
    likeR v k (2 * pl + (C.bit (f (likeI pl hf ot)) (v / 2 ^ k % 2)).1) (likeH hf ot (C.bit (f (likeI pl hf ot)) (v / 2 ^ k % 2)).1) (ot * 2)
      (C.bit (f (likeI pl hf ot)) (v / 2 ^ k % 2)).2 (updF f (likeI pl hf ot) (learnP (f (likeI pl hf ot)) (C.bit (f (likeI pl hf ot)) (v / 2 ^ k % 2)).1))

theorem and_256 (n : Nat) : n &&& 256 = n / 256 % 2 * 256 := by
  have e : (256 : Nat) = 2 ^ 8 := rfl
  have hb : n / 256 % 2 * 256 = if n.testBit 8 then 2 ^ 8 else 0 := by
    rw [Nat.testBit_eq_decide_div_mod_eq, ← e]
    by_cases h : n / 256 % 2 = 1
    · rw [h]; rfl
    · have : n / 256 % 2 = 0 := by omega
      rw [this]; rfl
  rw [hb]
  apply Nat.eq_of_testBit_eq
  intro i
  rw [Nat.testBit_and, e, Nat.testBit_two_pow]
  by_cases hi : i = 8
  · subst hi
    cases h : n.testBit 8
    · simp
    · rfl
  · cases h : n.testBit 8
    · simp; intro _ h8; exact absurd h8.symm hi
    · rw [if_pos rfl, Nat.testBit_two_pow]; simp; intro h8; exact absurd h8.symm hi

abbrev likeO (pl hf ot : Nat) : Array Value := #[i6 pl, i6 hf, i6 ot]

theorem likeI_lt {pl hf ot : Nat} (hp : pl < 256) (hh : hf = 0 ∨ hf = 256) : likeI pl hf ot < 768 := by
  unfold likeI
  rcases hh with rfl | rfl
  · rw [if_neg (by decide)]; omega
  · rw [if_pos rfl]; omega

set_option maxHeartbeats 2000000 in
set_option maxRecDepth 100000 in
theorem lat_any (a pl hf ot : Nat) (w : World) (hp : pl < 256) (hh : hf = 0 ∨ hf = 256) (ho : ot < 65536) (h : Blk w a (likeO pl hf ot) 227) :
    Calls Tryz.prog 142 #[.pointer (some ⟨a, 0, none⟩)] w fun z w' => z = .returned (i6 (likeI pl hf ot)) ∧ Blk w' a (likeO pl hf (ot * 2)) 227 ∧ Keeps (fun b => b = a) w w' := by
  obtain ⟨o2, ho2⟩ : ∃ o2, ot * 2 = o2 := ⟨_, rfl⟩
  obtain ⟨c, hc⟩ : ∃ c, o2 / 256 % 2 * 256 = c := ⟨_, rfl⟩
  have hcc : c = 0 ∨ c = 256 := by omega
  obtain ⟨c2, hc2⟩ : ∃ c2, (if hf = 256 then c else 0) = c2 := ⟨_, rfl⟩
  have hlI : likeI pl hf ot = hf + c2 + pl := by unfold likeI; rw [ho2, hc, hc2]
  rw [ho2]
  have y0 := h.cell 0
  have y1 := h.cell 1
  have y2 := h.cell 2
  simp only [List.getElem?_toArray, List.getElem?_cons_succ, List.getElem?_cons_zero] at y0 y1 y2
  have hfz := h.frozen 2
  have e1 : (ot : Int) * 2 = (o2 : Int) := by omega
  have e2 : bits BinOp.and IntKind.i64 (o2 : Int) 256 = (c : Int) := by
    have := and_i64 o2 256 (by omega) (by decide)
    rw [and_256, hc] at this
    exact this
  have e3 : bits BinOp.and IntKind.i64 (c : Int) (hf : Int) = (c2 : Int) := by
    have := and_i64 c hf (by omega) (by omega)
    rw [this, ← hc2]
    rcases hh with rfl | rfl
    · rw [if_neg (by decide)]; simp
    · rw [if_pos rfl, and_256]
      rcases hcc with rfl | rfl <;> rfl
  have hb2 : c2 ≤ 256 := by rw [← hc2]; split <;> omega
  have hhf : hf ≤ 256 := by omega
  rw [hlI]
  obtain ⟨s1, hs1⟩ : ∃ s1, hf + c2 = s1 := ⟨_, rfl⟩
  obtain ⟨s2, hs2⟩ : ∃ s2, s1 + pl = s2 := ⟨_, rfl⟩
  rw [hs1, hs2]
  have e4 : IntKind.i64.wrap ((hf : Int) + (c2 : Int)) = (s1 : Int) := by rw [IntWalk.i64_in _ (by omega)]; omega
  have e5 : IntKind.i64.wrap ((s1 : Int) + (pl : Int)) = (s2 : Int) := by rw [IntWalk.i64_in _ (by omega)]; omega
  have e6 : (hf : Int) + (c2 : Int) = (s1 : Int) := by omega
  have e7 : (s1 : Int) + (pl : Int) = (s2 : Int) := by omega
  have HH := hid h
  have hol : o2 < 131072 := by omega
  have hs3 : s1 ≤ 512 ∧ s2 ≤ 768 := by omega
  clear h hc hc2 hlI hs1 hs2 hcc
  go_enter Tryz.func142, Tryz.ntmps142
  go_wp2_with fail
  go_quiet (fail)
  go_wp2_with fail
  go_quiet (fail)
  go_wp2_with fail
  go_ret
  refine ⟨rfl, ?_, Keeps.drewN (Keeps.drewN (Keeps.setCell (Keeps.refl (fun b => b = a) w) (p := ⟨a, 2, none⟩) (fun _ => rfl) (i6 o2)) _) _⟩
  have hb := Blk.set HH.out 2 (i6 o2)
  simp only [List.setIfInBounds_toArray, List.set_cons_zero, List.set_cons_succ] at hb
  exact hb

set_option maxHeartbeats 2000000 in
set_option maxRecDepth 100000 in
theorem lstep_any (a pl hf ot b : Nat) (w : World) (hp : pl < 256) (hh : hf = 0 ∨ hf = 256) (ho : ot < 131072) (hb : b ≤ 1) (h : Blk w a (likeO pl hf ot) 227) :
    Calls Tryz.prog 143 #[.pointer (some ⟨a, 0, none⟩), i6 b] w fun z w' => z = .returned (.tuple #[]) ∧ Blk w' a (likeO (2 * pl + b) (if b * 256 = ot / 256 % 2 * 256 then hf else 0) ot) 227 ∧ Keeps (fun b => b = a) w w' := by
  obtain ⟨c, hc⟩ : ∃ c, ot / 256 % 2 * 256 = c := ⟨_, rfl⟩
  have hcc : c = 0 ∨ c = 256 := by omega
  rw [hc]
  have y0 := h.cell 0
  have y1 := h.cell 1
  have y2 := h.cell 2
  simp only [List.getElem?_toArray, List.getElem?_cons_succ, List.getElem?_cons_zero] at y0 y1 y2
  have hfz := h.frozen 0
  have hfz1 := h.frozen 1
  obtain ⟨m2, hm2⟩ : ∃ m2, 2 * pl = m2 := ⟨_, rfl⟩
  obtain ⟨m3, hm3⟩ : ∃ m3, m2 + b = m3 := ⟨_, rfl⟩
  have e4 : (pl : Int) * 2 = (m2 : Int) := by omega
  have e5 : bits BinOp.or IntKind.i64 (m2 : Int) (b : Int) = (m3 : Int) := by
    have := or_i64 m2 b (by omega) (by omega)
    rw [← hm2, or_bit hb, hm2, hm3] at this
    exact this
  have e2 : bits BinOp.and IntKind.i64 (ot : Int) 256 = (c : Int) := by
    have := and_i64 ot 256 (by omega) (by decide)
    rw [and_256, hc] at this
    exact this
  rw [hm2, hm3]
  obtain ⟨b2, hb2⟩ : ∃ b2, b * 256 = b2 := ⟨_, rfl⟩
  have e6 : (b : Int) * 256 = (b2 : Int) := by omega
  rw [hb2]
  have HH := hid h
  by_cases hbc : b2 = c
  · rw [if_pos hbc]
    have d0 : ((b2 : Int) == (c : Int)) = true := by simp; omega
    have d1 : ((b2 : Int) != (c : Int)) = false := by simp; omega
    clear h hc hm2 hm3 hcc hb2 hbc
    go_enter Tryz.func143, Tryz.ntmps143
    go_wp2_with fail
    go_end0
    refine ⟨rfl, ?_, Keeps.setCell (Keeps.refl (fun b => b = a) w) (p := ⟨a, 0, none⟩) (fun _ => rfl) _⟩
    have hb := Blk.set HH.out 0 (i6 m3)
    simp only [List.setIfInBounds_toArray, List.set_cons_zero, List.set_cons_succ] at hb
    exact hb
  · rw [if_neg hbc]
    have d0 : ((b2 : Int) == (c : Int)) = false := by simp; omega
    have d1 : ((b2 : Int) != (c : Int)) = true := by simp; omega
    clear h hc hm2 hm3 hcc hb2 hbc
    go_enter Tryz.func143, Tryz.ntmps143
    go_wp2_with fail
    go_end0
    refine ⟨rfl, ?_, Keeps.setCell (Keeps.setCell (Keeps.refl (fun b => b = a) w) (p := ⟨a, 0, none⟩) (fun _ => rfl) _) (p := ⟨a, 1, none⟩) (fun _ => rfl) _⟩
    have hb := Blk.set (Blk.set HH.out 0 (i6 m3)) 1 (i6 0)
    simp only [List.setIfInBounds_toArray, List.set_cons_zero, List.set_cons_succ] at hb
    exact hb

theorem likeH_or {hf ot b : Nat} (h : hf = 0 ∨ hf = 256) : likeH hf ot b = 0 ∨ likeH hf ot b = 256 := by
  unfold likeH; split
  · exact h
  · exact .inl rfl

set_option maxHeartbeats 8000000 in
set_option maxRecDepth 100000 in
theorem tputl_any (x cap0 : Nat) (E : Enc) (q : Option Addr) (g n cap : Nat) (v other : UInt8) (f : Nat → Nat) (w : World) (h : Enw w x E q cap0) (hg : Enc.Good E) (hcnt : E.n + 32 ≤ 1000000000)
    (hn : 768 ≤ n) (hn2 : n ≤ 65536) (hB : Blk w g (rowP f n) T16) (hok : TreeOk f n) (hge : ¬ winF x q g) :
    Calls Tryz.prog 138 #[.pointer (some ⟨x, 0, none⟩), .slice (some ⟨g, 0, none⟩) n cap, b8 v, b8 other] w fun z w' =>
      TreeLeft w w' z (.tuple #[]) x (likeR v.toNat 8 1 256 other.toNat (.enc E) f).2.1 (winF x q) g n (likeR v.toNat 8 1 256 other.toNat (.enc E) f).2.2 := by
  obtain ⟨R, hR⟩ : ∃ R, likeR v.toNat 8 1 256 other.toNat (.enc E) f = R := ⟨_, rfl⟩
  rw [hR]
  have hvl := v.toNat_lt
  have hol := other.toNat_lt
  have hxl := h.lt
  have hgl := hB.lt
  go_enter Tryz.func138, Tryz.ntmps138
  go_wp2_with fail
  go_loopw [9] (fun s9 wr => ∃ (k pl hf ot : Nat) (E1 : Enc) (q1 : Option Addr) (c1 : Nat) (f1 : Nat → Nat), s9 = i6 ((k : Int) - 1) ∧ k ≤ 8 ∧ pl < 2 ^ (8 - k + 1) ∧ (hf = 0 ∨ hf = 256) ∧ ot < 2 ^ (16 - k) ∧ Blk wr w.heap.size (likeO pl hf ot) 227 ∧ Enw wr x E1 q1 c1 ∧ Enc.Good E1 ∧ E1.n + 4 * k ≤ 1000000000 ∧ TreeOk f1 n ∧
    likeR v.toNat k pl hf ot (.enc E1) f1 = R ∧ Blk wr g (rowP f1 n) T16 ∧ Keeps (fun k => winF x q k ∨ k = g) w wr ∧ (∀ k, winF x q1 k → winF x q k ∨ w.heap.size + 1 ≤ k)) (fun s9 _ => (intOf s9 + 1).toNat)
  case atStart =>
    refine ⟨8, 1, 256, other.toNat, E, q, cap0, f, rfl, Nat.le_refl _, by decide, .inr rfl, hol, Blk.new _ _ _, h.keeps (S := fun _ => False) ((Keeps.refl _ _).alloc _) (fun _ _ h => h), hg, hcnt, hok, hR, hB.alloc _, (Keeps.refl _ _).alloc _, fun _ h => .inl h⟩
  case round =>
    clear h hg hcnt hok hR
    obtain ⟨k, pl, hf, ot, E1, q1, c1, f1, rfl, hk8, hpl, hhf, hot, hL, hE, hgd, hcnt, hok, hfin, hB1, hK, hG⟩ := hrel
    have hg1 : ¬ winF x q1 g := fun e => by
      rcases hG g e with e | e
      · exact hge e
      · omega
    have hl1 : ¬ winF x q1 w.heap.size := fun e => by
      rcases hG _ e with e | e
      · have := hxl _ e; omega
      · omega
    generalize hlb : w.heap.size = lb at *
    by_cases hk0 : k = 0
    · subst hk0
      have d0 : decide ((((0 : Nat) : Int) - 1) ≥ 0) = false := by decide
      have hfin' : (pl, Cdr.enc E1, f1) = R := hfin
      clear hfin
      go_wp2_with fail
      go_end0
      subst hfin'
      exact ⟨rfl, winF x q1, ⟨q1, c1, hE, rfl⟩, hK, fun k hk => (hG k hk).imp_right fun h => by omega, hB1⟩
    · obtain ⟨k, rfl⟩ : ∃ k', k = k' + 1 := ⟨k - 1, by omega⟩
      have ei : ((k + 1 : Nat) : Int) - 1 = (k : Int) := by omega
      rw [ei]
      have d0 : decide ((k : Int) ≥ 0) = true := by simp
      have hpl2 : pl < 256 := Nat.lt_of_lt_of_le hpl (show 2 ^ (8 - (k + 1) + 1) ≤ 2 ^ 8 from Nat.pow_le_pow_right (by decide) (by omega))
      have hot2 : ot < 65536 := Nat.lt_of_lt_of_le hot (show 2 ^ (16 - (k + 1)) ≤ 2 ^ 16 from Nat.pow_le_pow_right (by decide) (by omega))
      obtain ⟨vi, hvi⟩ : ∃ vi, v.toNat / 2 ^ k = vi := ⟨_, rfl⟩
      have e1 : (v.toNat : Int) / 2 ^ k = (vi : Int) := by rw [← hvi]; push_cast; rfl
      have hvl2 : vi < 256 := by rw [← hvi]; exact Nat.lt_of_le_of_lt (Nat.div_le_self _ _) hvl
      obtain ⟨b, hb⟩ : ∃ b, vi % 2 = b := ⟨_, rfl⟩
      have e2 := and1_u8 vi (by omega)
      rw [hb] at e2
      have hb1 : b ≤ 1 := by omega
      obtain ⟨ix, hix⟩ : ∃ ix, likeI pl hf ot = ix := ⟨_, rfl⟩
      have hixl : ix < 768 := by rw [← hix]; exact likeI_lt hpl2 hhf
      have HAt := hid (lat_any lb pl hf ot wr hpl2 hhf hot2 hL)
      have HSt := hid (fun w0 hL0 => lstep_any lb pl hf (ot * 2) b w0 hpl2 hhf (by omega) hb1 hL0)
      have HBit := hid (fun w0 hE0 hB0 => ebit_any x c1 E1 q1 g ix (f1 ix) b (rowP f1 n) T16 w0 hE0 hgd (by omega) (hok ix (by omega)) hb1 hB0 (rowP_get f1 (by omega)) hg1)
      rw [rowP_set] at HBit
      rw [hix] at HAt
      have hstep : likeR v.toNat (k + 1) pl hf ot (.enc E1) f1 = likeR v.toNat k (2 * pl + b) (likeH hf ot b) (ot * 2) (.enc (E1.bit (f1 ix) b)) (updF f1 ix (learnP (f1 ix) b)) := by
        rw [likeR, hvi, hb, hix]; rfl
      rw [hstep] at hfin
      have hnb := bit_n E1 (f1 ix) b
      have hpn : 2 * pl + b < 2 ^ (8 - k + 1) := by
        have e : 2 ^ (8 - k + 1) = 2 * 2 ^ (8 - (k + 1) + 1) := by rw [show 8 - k + 1 = (8 - (k + 1) + 1) + 1 from by omega, Nat.pow_succ]; omega
        omega
      have hon : ot * 2 < 2 ^ (16 - k) := by
        have e : 2 ^ (16 - k) = 2 * 2 ^ (16 - (k + 1)) := by rw [show 16 - k = (16 - (k + 1)) + 1 from by omega, Nat.pow_succ]; omega
        omega
      have HX := hid (And.intro hfin (And.intro hpn (And.intro hon (And.intro (bit_step hgd (hok ix (by omega)) b).1 (And.intro (hok.upd ix b (by omega)) (And.intro hK (And.intro hG (And.intro hE hB1))))))))
      have HM := hid (And.intro hk8 (And.intro hnb (And.intro hcnt (And.intro (likeH_or (ot := ot) (b := b) hhf) (And.intro hg1 hl1)))))
      have hgb : g < lb := hgl
      have hxb : x < wr.heap.size := hE.blk.lt
      have hlbl : lb < wr.heap.size := hL.lt
      have hk31 : k < 8 := by omega
      clear hfin hpn hon hE hgd hok hK hG hstep hB1 hg1 hl1 hk8 hk0 ei hnb hcnt hb hvi hpl hot hL hix
      go_wp2_with (go_at_call 142; refine HAt.out.mono ?_; rintro z w3 ⟨rfl, hL3, hK3⟩)
      have hE3 := HX.out.2.2.2.2.2.2.2.1.keeps hK3 (fun b hb e => HM.out.2.2.2.2.2 (e ▸ hb))
      have hB3 := HX.out.2.2.2.2.2.2.2.2.keeps hK3 (by omega)
      refine (HBit.out _ hE3 hB3).mono ?_
      rintro z w4 ⟨rfl, F4, ⟨q4, c4, hE4, rfl⟩, hK4, hG4, hB4⟩
      have hL4 := Blk.keeps hL3 hK4 (fun e => by rcases e with e | e; exact HM.out.2.2.2.2.2 e; omega)
      have HC3 := hid (And.intro hE4 (And.intro hB4 (And.intro hK4 (And.intro hG4 hK3))))
      clear hE3 hB3 hE4 hB4 hK4 hG4 hL3 hK3
      go_wp2_with fail
      refine (HSt.out _ hL4).mono ?_
      rintro z w5 ⟨rfl, hL5, hK5⟩
      have HL5 := hid (And.intro hL5 hK5)
      clear hL4 hL5 hK5
      go_wp2_with fail
      obtain ⟨hfin, hpn, hon, hgd, hok, hK, hG, hE, hB1⟩ := HX.out
      obtain ⟨hk8, hnb, hcnt, hlh, hg1, hl1⟩ := HM.out
      obtain ⟨hE4, hB4, hK4, hG4, hK3⟩ := HC3.out
      obtain ⟨hL5, hK5⟩ := HL5.out
      have hszs := hK3.size
      have hl4 : ¬ winF x q4 lb := fun e => by
        rcases hG4 lb e with e | e
        · exact hl1 e
        · omega
      have hE5 := hE4.keeps hK5 (fun b hb e => hl4 (e ▸ hb))
      have hB5 := hB4.keeps hK5 (by omega)
      have hszw := hK.size
      have hKK : Keeps (fun k => winF x q k ∨ k = g) w w5 := by
        refine ((hK.trans' hK3 (fun b hb e => ?_)).trans' hK4 (fun b hb e => ?_)).trans' hK5 (fun b hb e => ?_)
        · omega
        · rcases e with e | e
          · rcases hG b e with h | h
            · exact .inl h
            · omega
          · exact .inr e
        · omega
      refine ⟨⟨k, 2 * pl + b, likeH hf ot b, ot * 2, _, q4, c4, _, by go_num, by omega, hpn, hlh, hon, hL5, hE5, hgd, by omega, hok, hfin, hB5, hKK, fun j hj => ?_⟩, by simp [intOf]⟩
      rcases hG4 j hj with h | h
      · exact hG j h
      · exact .inr (by omega)

set_option maxHeartbeats 8000000 in
set_option maxRecDepth 100000 in
theorem tgetl_any (x : Nat) (D : Dec) (g n cap v : Nat) (other : UInt8) (f : Nat → Nat) (w : World) (h : Dcw w x D) (hd : DecOk D)
    (hn : 768 ≤ n) (hn2 : n ≤ 65536) (hB : Blk w g (rowP f n) T16) (hok : TreeOk f n) (hge : g ≠ x) :
    Calls Tryz.prog 152 #[.pointer (some ⟨x, 0, none⟩), .slice (some ⟨g, 0, none⟩) n cap, b8 other] w fun z w' =>
      TreeLeft w w' z (b8 (UInt8.ofNat (likeR v 8 1 256 other.toNat (.dec D) f).1)) x (likeR v 8 1 256 other.toNat (.dec D) f).2.1 (fun k => k = x) g n (likeR v 8 1 256 other.toNat (.dec D) f).2.2 := by
  obtain ⟨R, hR⟩ : ∃ R, likeR v 8 1 256 other.toNat (.dec D) f = R := ⟨_, rfl⟩
  rw [hR]
  have hol := other.toNat_lt
  have hxl := h.lt
  have hgl := hB.lt
  go_enter Tryz.func152, Tryz.ntmps152
  go_wp2_with fail
  go_loopw [12] (fun s12 wr => ∃ (k j pl hf ot : Nat) (D1 : Dec) (f1 : Nat → Nat), s12 = i6 j ∧ k + j = 8 ∧ pl < 2 ^ (8 - k + 1) ∧ (hf = 0 ∨ hf = 256) ∧ ot < 2 ^ (16 - k) ∧ Blk wr w.heap.size (likeO pl hf ot) 227 ∧ Dcw wr x D1 ∧ DecOk D1 ∧ TreeOk f1 n ∧
    likeR v k pl hf ot (.dec D1) f1 = R ∧ Blk wr g (rowP f1 n) T16 ∧ Keeps (fun k => k = x ∨ k = g) w wr) (fun s12 _ => 8 - (intOf s12).toNat)
  case atStart =>
    refine ⟨8, 0, 1, 256, other.toNat, D, f, rfl, rfl, by decide, .inr rfl, hol, Blk.new _ _ _, h.alloc _, hd, hok, hR, hB.alloc _, (Keeps.refl _ _).alloc _⟩
  case round =>
    clear h hd hok hR hB
    obtain ⟨k, j, pl, hf, ot, D1, f1, rfl, hkj, hpl, hhf, hot, hL, hD, hd, hok, hfin, hB, hK⟩ := hrel
    generalize hlb : w.heap.size = lb at *
    by_cases hk0 : k = 0
    · subst hk0
      obtain rfl : j = 8 := by omega
      have d0 : decide (((8 : Nat) : Int) < 8) = false := by decide
      have hfin' : (pl, Cdr.dec D1, f1) = R := hfin
      have y0 := hL.cell 0
      simp only [List.getElem?_toArray, List.getElem?_cons_zero] at y0
      have hpl3 : pl < 512 := hpl
      have e9 : (pl : Int) % 256 = ((UInt8.ofNat pl).toNat : Int) := by rw [UInt8.toNat_ofNat']; show _ = ((pl % 256 : Nat) : Int); omega
      have e10 : IntKind.u8.wrap (pl : Int) = ((UInt8.ofNat pl).toNat : Int) := by rw [← e9]; simp [IntKind.wrap, IntKind.bits, IntKind.signed]
      obtain ⟨yb, hyb⟩ : ∃ yb, UInt8.ofNat pl = yb := ⟨_, rfl⟩
      rw [hyb] at e9 e10
      have HY := hid hyb
      clear hfin hyb
      go_wp2_with fail
      go_ret
      subst hfin'
      dsimp only
      rw [HY.out]
      exact ⟨rfl, fun k => k = x, ⟨hD, rfl⟩, hK, fun k hk => .inl hk, hB⟩
    · obtain ⟨k, rfl⟩ : ∃ k', k = k' + 1 := ⟨k - 1, by omega⟩
      have hlt : j < 8 := by omega
      have d0 : decide ((j : Int) < 8) = true := by simp; omega
      have hpl2 : pl < 256 := Nat.lt_of_lt_of_le hpl (show 2 ^ (8 - (k + 1) + 1) ≤ 2 ^ 8 from Nat.pow_le_pow_right (by decide) (by omega))
      have hot2 : ot < 65536 := Nat.lt_of_lt_of_le hot (show 2 ^ (16 - (k + 1)) ≤ 2 ^ 16 from Nat.pow_le_pow_right (by decide) (by omega))
      obtain ⟨ix, hix⟩ : ∃ ix, likeI pl hf ot = ix := ⟨_, rfl⟩
      have hixl : ix < 768 := by rw [← hix]; exact likeI_lt hpl2 hhf
      obtain ⟨b, hb⟩ : ∃ b, (D1.bit (f1 ix)).1 = b := ⟨_, rfl⟩
      obtain ⟨D2, hD2⟩ : ∃ D2, (D1.bit (f1 ix)).2 = D2 := ⟨_, rfl⟩
      have hb1 : b ≤ 1 := by rw [← hb]; exact dec_bit_le _ _
      have HAt := hid (lat_any lb pl hf ot wr hpl2 hhf hot2 hL)
      have HSt := hid (fun w0 hL0 => lstep_any lb pl hf (ot * 2) b w0 hpl2 hhf (by omega) hb1 hL0)
      have HBit := hid (fun w0 hD0 hB0 => dbit_any x D1 g ix (f1 ix) (rowP f1 n) T16 w0 hD0 hd (hok ix (by omega)) hB0 (rowP_get f1 (by omega)) hge)
      rw [hb, hD2, rowP_set] at HBit
      rw [hix] at HAt
      have hok2 := dec_bit_ok hd (hok ix (by omega))
      rw [hD2] at hok2
      have hstep : likeR v (k + 1) pl hf ot (.dec D1) f1 = likeR v k (2 * pl + b) (likeH hf ot b) (ot * 2) (.dec D2) (updF f1 ix (learnP (f1 ix) b)) := by
        rw [likeR, hix, ← hb, ← hD2]; rfl
      rw [hstep] at hfin
      have hpn : 2 * pl + b < 2 ^ (8 - k + 1) := by
        have e : 2 ^ (8 - k + 1) = 2 * 2 ^ (8 - (k + 1) + 1) := by rw [show 8 - k + 1 = (8 - (k + 1) + 1) + 1 from by omega, Nat.pow_succ]; omega
        omega
      have hon : ot * 2 < 2 ^ (16 - k) := by
        have e : 2 ^ (16 - k) = 2 * 2 ^ (16 - (k + 1)) := by rw [show 16 - k = (16 - (k + 1)) + 1 from by omega, Nat.pow_succ]; omega
        omega
      have hlx : lb ≠ x := by omega
      have hlg : lb ≠ g := by omega
      have HX := hid (And.intro hfin (And.intro hpn (And.intro hon (And.intro hok2 (And.intro (hok.upd ix b (by omega)) (And.intro hK (And.intro hD hB)))))))
      have HM := hid (And.intro hkj (likeH_or (ot := ot) (b := b) hhf))
      have hgb : g < wr.heap.size := hB.lt
      have hxb : x < wr.heap.size := hD.lt
      clear hfin hpn hon hD hd hok hK hstep hB hkj hk0 hpl hot hL hix hb hD2 hok2
      go_wp2_with (go_at_call 142; refine HAt.out.mono ?_; rintro z w3 ⟨rfl, hL3, hK3⟩)
      have hD3 := Blk.keeps HX.out.2.2.2.2.2.2.1 hK3 (fun e => hlx e.symm)
      have hB3 := Blk.keeps HX.out.2.2.2.2.2.2.2 hK3 (fun e => hlg e.symm)
      refine (HBit.out _ hD3 hB3).mono ?_
      rintro z w4 ⟨rfl, F4, ⟨hD4, rfl⟩, hK4, hG4, hB4⟩
      have hL4 := Blk.keeps hL3 hK4 (fun e => by rcases e with e | e; exact hlx e; exact hlg e)
      have HC3 := hid (And.intro hD4 (And.intro hB4 (And.intro hK4 hK3)))
      clear hD3 hB3 hD4 hB4 hK4 hG4 hL3 hK3
      go_wp2_with fail
      refine (HSt.out _ hL4).mono ?_
      rintro z w5 ⟨rfl, hL5, hK5⟩
      have HL5 := hid (And.intro hL5 hK5)
      clear hL4 hL5 hK5
      go_wp2_with fail
      obtain ⟨hfin, hpn, hon, hok2, hok, hK, hD, hB⟩ := HX.out
      obtain ⟨hkj, hlh⟩ := HM.out
      obtain ⟨hD4, hB4, hK4, hK3⟩ := HC3.out
      obtain ⟨hL5, hK5⟩ := HL5.out
      have hD5 := Blk.keeps hD4 hK5 (fun e => hlx e.symm)
      have hB5 := Blk.keeps hB4 hK5 (fun e => hlg e.symm)
      have hKK : Keeps (fun k => k = x ∨ k = g) w w5 := by
        refine ((hK.trans' hK3 (fun b hb e => ?_)).trans' hK4 (fun b hb e => e)).trans' hK5 (fun b hb e => ?_)
        · omega
        · omega
      exact ⟨⟨k, j + 1, 2 * pl + b, likeH hf ot b, ot * 2, D2, _, by go_num, by omega, hpn, hlh, hon, hL5, hD5, hok2, hok, hfin, hB5, hKK⟩, by simp [intOf]; omega⟩
end Go.Proofs.YtalopgbkjgjppaaGreatDoor
