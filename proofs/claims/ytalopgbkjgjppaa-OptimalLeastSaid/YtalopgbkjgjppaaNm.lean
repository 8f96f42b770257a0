/- Numbers: bits.Len, the prices; the document's too. -/
import Derived.Test.YtalopgbkjgjppaaBn
import Derived.Test.YtalopgbkjgjppaaLn
namespace Go.Proofs.Ytalopgbkjgjppaa
open Go.RowKit Go.Cas

theorem bitAux_mono : ∀ f x y, x ≤ y → Lib.bitLenAux f x ≤ Lib.bitLenAux f y
  | 0, _, _, _ => Nat.le_refl _
  | f + 1, x, y, h => by
    unfold Lib.bitLenAux
    have := bitAux_mono f (x / 2) (y / 2) (by omega)
    split
    · omega
    · split <;> omega

theorem bitAux_le : ∀ f x, Lib.bitLenAux f x ≤ f
  | 0, _ => Nat.le_refl _
  | f + 1, x => by
    unfold Lib.bitLenAux
    have := bitAux_le f (x / 2)
    split <;> omega

theorem bitAux_step : ∀ f x, x < 2 ^ f → Lib.bitLenAux (f + 1) x = Lib.bitLenAux f x
  | 0, x, h => by
    have : x = 0 := by simpa using h
    subst this; rfl
  | f + 1, x, h => by
    have hx : x / 2 < 2 ^ f := by rw [Nat.pow_succ] at h; omega
    have ih := bitAux_step f (x / 2) hx
    conv => lhs; rw [Lib.bitLenAux]
    conv => rhs; rw [Lib.bitLenAux]
    rw [ih]

/-- One halving. -/
theorem bitLen_half {x : Nat} (h0 : x ≠ 0) (h : x < 18446744073709551616) : Lib.bitLen x = 1 + Lib.bitLen (x / 2) := by
  unfold Lib.bitLen
  rw [bitAux_step 63 (x / 2) (by omega)]
  conv => lhs; rw [Lib.bitLenAux, if_neg h0]

theorem bitLen_mono {x y : Nat} (h : x ≤ y) : Lib.bitLen x ≤ Lib.bitLen y := bitAux_mono _ _ _ h

/-- A table of prices. -/
structure Tab where
  lit : Int
  mat : Int
  near : Int
  far : Int
  bit : Int

def Tab.val (t : Tab) : Value := .agg #[i6 t.lit, i6 t.mat, i6 t.near, i6 t.far, i6 t.bit]

def okP (x : Int) : Prop := 1 ≤ x ∧ x ≤ 10000
def Tab.good (t : Tab) : Prop := okP t.lit ∧ okP t.mat ∧ okP t.near ∧ okP t.far ∧ okP t.bit

/-- What a length costs; what a distance does. -/
def Tab.len (t : Tab) (n : Nat) : Int := if n < 10 then t.near else t.far
def Tab.dist (t : Tab) (d : Nat) : Int := t.bit * (Lib.bitLen (d - 1) : Nat)
def Tab.edge (t : Tab) (n d : Nat) : Int := t.mat + t.len n + t.dist d

theorem mul_le {a : Int} (h : okP a) (b : Nat) (hb : b ≤ 64) : 0 ≤ a * (b : Int) ∧ a * (b : Int) ≤ 640000 := by
  refine ⟨Int.mul_nonneg (by have := h.1; omega) (by omega), ?_⟩
  have h1 : a * (b : Int) ≤ 10000 * (b : Int) := Int.mul_le_mul_of_nonneg_right h.2 (by omega)
  omega

theorem Tab.dist_ok (t : Tab) (h : t.good) (d : Nat) : 0 ≤ t.dist d ∧ t.dist d ≤ 640000 := mul_le h.2.2.2.2 _ (bitAux_le _ _)
theorem Tab.len_ok (t : Tab) (h : t.good) (n : Nat) : 1 ≤ t.len n ∧ t.len n ≤ 10000 := by
  unfold Tab.len
  split
  · exact h.2.2.1
  · exact h.2.2.2.1
theorem Tab.edge_ok (t : Tab) (h : t.good) (n d : Nat) : 2 ≤ t.edge n d ∧ t.edge n d ≤ 660000 := by
  have h1 := t.dist_ok h d
  have h2 := t.len_ok h n
  have h3 := h.2.1
  unfold okP at h3
  unfold Tab.edge
  omega

theorem Tab.dist_mono (t : Tab) (h : t.good) {d e : Nat} (hd : d ≤ e) : t.dist d ≤ t.dist e := by
  unfold Tab.dist
  have h1 := bitLen_mono (show d - 1 ≤ e - 1 by omega)
  have h2 := h.2.2.2.2.1
  exact Int.mul_le_mul_of_nonneg_left (by omega) (by omega)

set_option maxHeartbeats 4000000 in
set_option maxRecDepth 100000 in
theorem plength_any (t : Tab) (n : Nat) (w : World) :
    Calls Try.prog 52 #[t.val, i6 n] w fun z w' => z = .returned (i6 (t.len n)) ∧ Same w w' := by
  unfold Tab.val Tab.len
  by_cases h : n < 10
  · rw [if_pos h]
    have d1 : decide ((n : Int) < 10) = true := by simp; omega
    go_enter Try.func52, Try.ntmps52
    go_wp2_with fail
    go_ret
    exact ⟨rfl, by first | exact (Keeps.refl _ _).alloc _ | (refine Keeps.drewN ?_ _; exact (Keeps.refl _ _).alloc _)⟩
  · rw [if_neg h]
    have d1 : decide ((n : Int) < 10) = false := by simp; omega
    go_enter Try.func52, Try.ntmps52
    go_wp2_with fail
    go_ret
    exact ⟨rfl, by first | exact (Keeps.refl _ _).alloc _ | (refine Keeps.drewN ?_ _; exact (Keeps.refl _ _).alloc _)⟩

set_option maxHeartbeats 4000000 in
set_option maxRecDepth 100000 in
theorem pdist_any (t : Tab) (ht : t.good) (d : Nat) (w : World) (h1 : 1 ≤ d) (h2 : d ≤ 1000000) :
    Calls Try.prog 53 #[t.val, i6 d] w fun z w' => z = .returned (i6 (t.dist d)) ∧ Same w w' := by
  have d1 : decide ((d : Int) < 1) = false := by simp; omega
  have h3 := t.dist_ok ht d
  have e1 : ((d : Int) - 1).toNat = d - 1 := by omega
  have hl := hid (fun w0 => len_any ((d : Int) - 1) w0 (by omega) (by omega))
  rw [e1] at hl
  unfold Tab.val
  unfold Tab.dist at h3 ⊢
  generalize Lib.bitLen (d - 1) = b at *
  have e2 : IntKind.i64.wrap ((d : Int) - 1) = (d : Int) - 1 := IntWalk.i64_in _ (by omega)
  have e3 : IntKind.u64.wrap ((d : Int) - 1) = (d : Int) - 1 := by unfold IntKind.wrap; simp [IntKind.bits, IntKind.signed]; omega
  have e4 : IntKind.i64.wrap (t.bit * (b : Int)) = t.bit * (b : Int) := IntWalk.i64_in _ (by omega)
  go_enter Try.func53, Try.ntmps53
  have B0 : Blk (w.alloc (.cells #[i6 t.lit, i6 t.mat, i6 t.near, i6 t.far, i6 t.bit] 60)) w.heap.size #[i6 t.lit, i6 t.mat, i6 t.near, i6 t.far, i6 t.bit] 60 := Blk.new _ _ _
  have c4 := B0.cell 4
  have hb4 := B0.lt
  simp only [List.getElem?_toArray, List.getElem?_cons_succ, List.getElem?_cons_zero] at c4
  go_upto_region 3 with fail
  refine wp_region_held_drew (S := (fun V => Same (w.alloc (.cells #[i6 t.lit, i6 t.mat, i6 t.near, i6 t.far, i6 t.bit] 60)) V)) (by kernel_rfl) (by (try dsimp only); exact (Keeps.refl _ _).drew) (fun hHeld => ?_)
  refine wpAnyH_take (i := 0) (oi := ⟨some 7, _, _, _, _, _⟩) (v := ?v0d) rfl (by kernel_rfl) (by kernel_rfl) (by kernel_rfl) (fun _ _ _ h => h) (Or.inl ⟨by rfl, ?h0d⟩) (by assumption) ?r0d
  case h0d => intro w hSw; (try dsimp only at hSw); go_simp; (try with_reducible rfl)
  try simp only [Act.put, List.setIfInBounds_toArray, List.set_cons_zero, List.set_cons_succ]
  refine wpAnyH_take (i := 1) (oi := ⟨some 8, _, _, _, _, _⟩) (v := ?v1d) rfl (by kernel_rfl) (by kernel_rfl) (by kernel_rfl) (fun _ _ _ h => h) (Or.inl ⟨by rfl, ?h1d⟩) (by assumption) ?r1d
  case h1d => intro w hSw; (try dsimp only at hSw); have q4 := (Keeps.cell hSw hb4 (fun h => h)).trans c4; go_simp; (try with_reducible rfl)
  try simp only [Act.put, List.setIfInBounds_toArray, List.set_cons_zero, List.set_cons_succ]
  refine wpAnyH_take (i := 2) (oi := ⟨some 9, _, _, _, _, _⟩) (v := ?v2d) rfl (by kernel_rfl) (by kernel_rfl) (by kernel_rfl) (fun _ _ _ h => h) (Or.inl ⟨by rfl, ?h2d⟩) (by assumption) ?r2d
  case h2d => intro w hSw; (try dsimp only at hSw); go_simp; (try with_reducible rfl)
  try simp only [Act.put, List.setIfInBounds_toArray, List.set_cons_zero, List.set_cons_succ]
  refine wpAnyH_take (i := 3) (oi := ⟨some 10, _, _, _, _, _⟩) (v := ?v3d) rfl (by kernel_rfl) (by kernel_rfl) (by kernel_rfl) (fun _ _ _ h => h) (Or.inl ⟨by rfl, ?h3d⟩) (by assumption) ?r3d
  case h3d => intro w hSw; (try dsimp only at hSw); go_simp; (try with_reducible rfl)
  try simp only [Act.put, List.setIfInBounds_toArray, List.set_cons_zero, List.set_cons_succ]
  refine wpAnyH_take (i := 4) (oi := ⟨some 11, _, _, _, _, _⟩) (v := ?v4d) rfl (by kernel_rfl) (by kernel_rfl) (by kernel_rfl) (fun _ _ _ h => h) (Or.inl ⟨by rfl, ?h4d⟩) (by assumption) ?r4d
  case h4d => intro w hSw; (try dsimp only at hSw); go_simp; (try with_reducible rfl)
  try simp only [Act.put, List.setIfInBounds_toArray, List.set_cons_zero, List.set_cons_succ]
  refine wpAnyH_ready (rs := [5]) (by kernel_rfl) (by simp) ?_
  refine AllReadyH.cons (o := ⟨some 12, _, _, _, _, _⟩) rfl (fun K hK => ?_) AllReadyH.nil
  go_simp; (go_at_call 62; refine (hl.out _).mono ?_; rintro z w4 ⟨rfl, rfl⟩)
  refine hK.out _ _ (by (try dsimp only); repeat (first | exact Keeps.refl _ _ | refine Keeps.drew ?_ | refine Keeps.drewN ?_ _ | refine Keeps.alloc ?_ _ | refine Keeps.setCell ?_ (by simp; try omega) _ | exact Hid.out (by assumption) | refine Keeps.trans ?_ (by assumption))) (fun hHeld => ?_)
  clear hK K
  try simp only [Act.put, List.setIfInBounds_toArray, List.set_cons_zero, List.set_cons_succ]
  refine wpAnyH_take (i := 6) (oi := ⟨some 13, _, _, _, _, _⟩) (v := ?v6d) rfl (by kernel_rfl) (by kernel_rfl) (by kernel_rfl) (fun _ _ _ h => h) (Or.inl ⟨by rfl, ?h6d⟩) (by assumption) ?r6d
  case h6d => intro w hSw; (try dsimp only at hSw); go_simp; (try with_reducible rfl)
  try simp only [Act.put, List.setIfInBounds_toArray, List.set_cons_zero, List.set_cons_succ]
  refine wpAnyH_take (i := 7) (oi := ⟨some 4, _, _, _, _, _⟩) (v := ?v7d) rfl (by kernel_rfl) (by kernel_rfl) (by kernel_rfl) (fun _ _ _ h => h) (Or.inl ⟨by rfl, ?h7d⟩) (by assumption) ?r7d
  case h7d => intro w hSw; (try dsimp only at hSw); go_simp; (try with_reducible rfl)
  try simp only [Act.put, List.setIfInBounds_toArray, List.set_cons_zero, List.set_cons_succ]
  refine wpAnyH_done (by kernel_rfl) ?_ _
  go_wp2_with fail
  go_ret
  exact ⟨rfl, ((Keeps.refl _ _).alloc _).drew⟩

set_option maxHeartbeats 4000000 in
set_option maxRecDepth 100000 in
theorem rbits_any (d : Nat) (w : World) (h1 : 1 ≤ d) (h2 : d ≤ 1000000) :
    Calls Try.prog 64 #[i6 d] w fun z w' => z = .returned (i6 (Lib.bitLen (d - 1))) ∧ Same w w' := by
  by_cases h : d = 1
  · subst h
    go_enter Try.func64, Try.ntmps64
    go_wp2_with fail
    go_ret
    exact ⟨rfl, Keeps.refl _ _⟩
  · have d1 : decide ((1 : Int) < (d : Int)) = true := by simp; omega
    have d2 : decide ((d : Int) > 1) = true := by simp; omega
    obtain ⟨k0, hk0⟩ : ∃ k0 : Nat, k0 = d - 1 := ⟨_, rfl⟩
    have e1 : (d : Int) - 1 = (k0 : Int) := by omega
    have e2 : IntKind.u64.wrap (k0 : Int) = (k0 : Int) := by unfold IntKind.wrap; simp [IntKind.bits, IntKind.signed]; omega
    have e3 : IntKind.i64.wrap (k0 : Int) = (k0 : Int) := IntWalk.i64_in _ (by omega)
    rw [← hk0]
    obtain ⟨B, hB⟩ : ∃ B, B = Lib.bitLen k0 := ⟨_, rfl⟩
    have hB64 : B ≤ 64 := by rw [hB]; exact bitAux_le _ _
    have HB := hid hB
    rw [← hB]
    have hk1 : k0 ≤ 1000000 := by omega
    clear hB hk0 h
    go_enter Try.func64, Try.ntmps64
    go_wp2_with fail
    go_loopw [3, 4] (fun s3 s4 wx => ∃ (n k : Nat), s3 = i6 n ∧ s4 = .int .u64 k ∧ n + Lib.bitLen k = B ∧ k ≤ 1000000 ∧ Same w wx) (fun _ s4 _ => (intOf s4).toNat)
    case atStart => exact ⟨0, k0, rfl, rfl, by rw [HB.out]; omega, hk1, by first | exact Keeps.refl _ _ | exact (Keeps.refl _ _).drew | exact (Keeps.refl _ _).drewN _⟩
    case round =>
      obtain ⟨n, k, rfl, rfl, hn, hk, hsm⟩ := hrel
      by_cases h0 : k = 0
      · subst h0
        have e5 : n = B := hn
        subst e5
        go_wp2_with fail
        go_ret
        exact ⟨rfl, hsm⟩
      · have e4 : decide ((0 : Int) < (k : Int)) = true := by simp; omega
        have e5 : decide ((k : Int) > 0) = true := by simp; omega
        have HN := hid hn
        have hnB : n ≤ 64 := by omega
        clear hn
        go_wp2_with fail
        have hh := bitLen_half h0 (by omega)
        have hn := HN.out
        exact ⟨⟨n + 1, k / 2, by go_num, by go_num, by omega, by omega, hsm⟩, by simp [intOf]; omega⟩

set_option maxHeartbeats 4000000 in
set_option maxRecDepth 100000 in
theorem rmatch_any (t : Tab) (ht : t.good) (n d : Nat) (w : World) (h1 : 1 ≤ d) (h2 : d ≤ 1000000) :
    Calls Try.prog 56 #[t.val, i6 n, i6 d] w fun z w' => z = .returned (i6 (t.edge n d)) ∧ Same w w' := by
  have h3 := t.dist_ok ht d
  have h4 := t.edge_ok ht n d
  have hl := hid (fun w0 => rbits_any d w0 h1 h2)
  have hE : t.edge n d = t.mat + t.bit * (Lib.bitLen (d - 1) : Nat) + t.len n := by unfold Tab.edge Tab.dist; omega
  have hM := ht.2.1
  have hL := t.len_ok ht n
  rw [hE] at h4 ⊢
  unfold Tab.val
  unfold Tab.dist at h3
  unfold okP at hM
  generalize Lib.bitLen (d - 1) = b at *
  have e4 : IntKind.i64.wrap (t.bit * (b : Int)) = t.bit * (b : Int) := IntWalk.i64_in _ (by omega)
  have e5 : IntKind.i64.wrap (t.mat + t.bit * (b : Int)) = t.mat + t.bit * (b : Int) := IntWalk.i64_in _ (by omega)
  have e6 : IntKind.i64.wrap (t.mat + t.bit * (b : Int) + t.len n) = t.mat + t.bit * (b : Int) + t.len n := IntWalk.i64_in _ (by omega)
  have B0 : Blk (w.alloc (.cells #[i6 t.lit, i6 t.mat, i6 t.near, i6 t.far, i6 t.bit] 65)) w.heap.size #[i6 t.lit, i6 t.mat, i6 t.near, i6 t.far, i6 t.bit] 65 := Blk.new _ _ _
  have c1 := B0.cell 1
  have c2 := B0.cell 2
  have c3 := B0.cell 3
  have c4 := B0.cell 4
  have hb4 := B0.lt
  simp only [List.getElem?_toArray, List.getElem?_cons_succ, List.getElem?_cons_zero] at c1 c2 c3 c4
  have hE2 := hid hE
  clear hE
  by_cases h10 : n < 10
  · have hn : t.len n = t.near := by unfold Tab.len; rw [if_pos h10]
    rw [hn] at e6 ⊢
    have d1 : decide ((n : Int) < 10) = true := by simp; omega
    clear hn h10
    go_enter Try.func56, Try.ntmps56
    go_upto_region 1 with fail
    refine wp_region_held_drew (S := (fun V => Same (w.alloc (.cells #[i6 t.lit, i6 t.mat, i6 t.near, i6 t.far, i6 t.bit] 65)) V)) (by kernel_rfl) (by (try dsimp only); exact (Keeps.refl _ _).drew) (fun hHeld => ?_)
    refine wpAnyH_take (i := 0) (oi := ⟨some 8, _, _, _, _, _⟩) (v := ?v0a) rfl (by kernel_rfl) (by kernel_rfl) (by kernel_rfl) (fun _ _ _ h => h) (Or.inl ⟨by rfl, ?h0a⟩) (by assumption) ?r0a
    case h0a => intro w hSw; (try dsimp only at hSw); go_simp; (try with_reducible rfl)
    try simp only [Act.put, List.setIfInBounds_toArray, List.set_cons_zero, List.set_cons_succ]
    refine wpAnyH_take (i := 1) (oi := ⟨some 9, _, _, _, _, _⟩) (v := ?v1a) rfl (by kernel_rfl) (by kernel_rfl) (by kernel_rfl) (fun _ _ _ h => h) (Or.inl ⟨by rfl, ?h1a⟩) (by assumption) ?r1a
    case h1a => intro w hSw; (try dsimp only at hSw); have q1 := (Keeps.cell hSw hb4 (fun h => h)).trans c1; go_simp; (try with_reducible rfl)
    try simp only [Act.put, List.setIfInBounds_toArray, List.set_cons_zero, List.set_cons_succ]
    refine wpAnyH_take (i := 2) (oi := ⟨some 10, _, _, _, _, _⟩) (v := ?v2a) rfl (by kernel_rfl) (by kernel_rfl) (by kernel_rfl) (fun _ _ _ h => h) (Or.inl ⟨by rfl, ?h2a⟩) (by assumption) ?r2a
    case h2a => intro w hSw; (try dsimp only at hSw); go_simp; (try with_reducible rfl)
    try simp only [Act.put, List.setIfInBounds_toArray, List.set_cons_zero, List.set_cons_succ]
    refine wpAnyH_take (i := 3) (oi := ⟨some 11, _, _, _, _, _⟩) (v := ?v3a) rfl (by kernel_rfl) (by kernel_rfl) (by kernel_rfl) (fun _ _ _ h => h) (Or.inl ⟨by rfl, ?h3a⟩) (by assumption) ?r3a
    case h3a => intro w hSw; (try dsimp only at hSw); have q4 := (Keeps.cell hSw hb4 (fun h => h)).trans c4; go_simp; (try with_reducible rfl)
    try simp only [Act.put, List.setIfInBounds_toArray, List.set_cons_zero, List.set_cons_succ]
    refine wpAnyH_take (i := 4) (oi := ⟨some 12, _, _, _, _, _⟩) (v := ?v4a) rfl (by kernel_rfl) (by kernel_rfl) (by kernel_rfl) (fun _ _ _ h => h) (Or.inl ⟨by rfl, ?h4a⟩) (by assumption) ?r4a
    case h4a => intro w hSw; (try dsimp only at hSw); go_simp; (try with_reducible rfl)
    try simp only [Act.put, List.setIfInBounds_toArray, List.set_cons_zero, List.set_cons_succ]
    refine wpAnyH_ready (rs := [5]) (by kernel_rfl) (by simp) ?_
    refine AllReadyH.cons (o := ⟨some 13, _, _, _, _, _⟩) rfl (fun K hK => ?_) AllReadyH.nil
    go_simp; (go_at_call 64; refine (hl.out _).mono ?_; rintro z w4 ⟨rfl, hs4⟩)
    refine hK.out _ _ (by (try dsimp only); repeat (first | exact Keeps.refl _ _ | refine Keeps.drew ?_ | refine Keeps.drewN ?_ _ | refine Keeps.alloc ?_ _ | refine Keeps.setCell ?_ (by simp; try omega) _ | exact Hid.out (by assumption) | refine Keeps.trans ?_ (by assumption))) (fun hHeld => ?_)
    clear hK K
    try simp only [Act.put, List.setIfInBounds_toArray, List.set_cons_zero, List.set_cons_succ]
    refine wpAnyH_take (i := 6) (oi := ⟨some 14, _, _, _, _, _⟩) (v := ?v6a) rfl (by kernel_rfl) (by kernel_rfl) (by kernel_rfl) (fun _ _ _ h => h) (Or.inl ⟨by rfl, ?h6a⟩) (by assumption) ?r6a
    case h6a => intro w hSw; (try dsimp only at hSw); go_simp; (try with_reducible rfl)
    try simp only [Act.put, List.setIfInBounds_toArray, List.set_cons_zero, List.set_cons_succ]
    refine wpAnyH_take (i := 7) (oi := ⟨some 15, _, _, _, _, _⟩) (v := ?v7a) rfl (by kernel_rfl) (by kernel_rfl) (by kernel_rfl) (fun _ _ _ h => h) (Or.inl ⟨by rfl, ?h7a⟩) (by assumption) ?r7a
    case h7a => intro w hSw; (try dsimp only at hSw); go_simp; (try with_reducible rfl)
    try simp only [Act.put, List.setIfInBounds_toArray, List.set_cons_zero, List.set_cons_succ]
    refine wpAnyH_take (i := 8) (oi := ⟨some 7, _, _, _, _, _⟩) (v := ?v8a) rfl (by kernel_rfl) (by kernel_rfl) (by kernel_rfl) (fun _ _ _ h => h) (Or.inl ⟨by rfl, ?h8a⟩) (by assumption) ?r8a
    case h8a => intro w hSw; (try dsimp only at hSw); go_simp; (try with_reducible rfl)
    try simp only [Act.put, List.setIfInBounds_toArray, List.set_cons_zero, List.set_cons_succ]
    refine wpAnyH_done (by kernel_rfl) ?_ _
    have q2 := (Keeps.cell hHeld hb4 (fun h => h)).trans c2
    go_wp2_with fail
    go_ret
    exact ⟨rfl, by first | exact ((Keeps.refl _ _).alloc _).trans hHeld | (refine Keeps.drewN ?_ _; exact ((Keeps.refl _ _).alloc _).trans hHeld) | (refine Keeps.drew ?_; exact ((Keeps.refl _ _).alloc _).trans hHeld)⟩
  · have hn : t.len n = t.far := by unfold Tab.len; rw [if_neg h10]
    rw [hn] at e6 ⊢
    have d1 : decide ((n : Int) < 10) = false := by simp; omega
    clear hn h10
    go_enter Try.func56, Try.ntmps56
    go_upto_region 1 with fail
    refine wp_region_held_drew (S := (fun V => Same (w.alloc (.cells #[i6 t.lit, i6 t.mat, i6 t.near, i6 t.far, i6 t.bit] 65)) V)) (by kernel_rfl) (by (try dsimp only); exact (Keeps.refl _ _).drew) (fun hHeld => ?_)
    refine wpAnyH_take (i := 0) (oi := ⟨some 8, _, _, _, _, _⟩) (v := ?v0b) rfl (by kernel_rfl) (by kernel_rfl) (by kernel_rfl) (fun _ _ _ h => h) (Or.inl ⟨by rfl, ?h0b⟩) (by assumption) ?r0b
    case h0b => intro w hSw; (try dsimp only at hSw); go_simp; (try with_reducible rfl)
    try simp only [Act.put, List.setIfInBounds_toArray, List.set_cons_zero, List.set_cons_succ]
    refine wpAnyH_take (i := 1) (oi := ⟨some 9, _, _, _, _, _⟩) (v := ?v1b) rfl (by kernel_rfl) (by kernel_rfl) (by kernel_rfl) (fun _ _ _ h => h) (Or.inl ⟨by rfl, ?h1b⟩) (by assumption) ?r1b
    case h1b => intro w hSw; (try dsimp only at hSw); have q1 := (Keeps.cell hSw hb4 (fun h => h)).trans c1; go_simp; (try with_reducible rfl)
    try simp only [Act.put, List.setIfInBounds_toArray, List.set_cons_zero, List.set_cons_succ]
    refine wpAnyH_take (i := 2) (oi := ⟨some 10, _, _, _, _, _⟩) (v := ?v2b) rfl (by kernel_rfl) (by kernel_rfl) (by kernel_rfl) (fun _ _ _ h => h) (Or.inl ⟨by rfl, ?h2b⟩) (by assumption) ?r2b
    case h2b => intro w hSw; (try dsimp only at hSw); go_simp; (try with_reducible rfl)
    try simp only [Act.put, List.setIfInBounds_toArray, List.set_cons_zero, List.set_cons_succ]
    refine wpAnyH_take (i := 3) (oi := ⟨some 11, _, _, _, _, _⟩) (v := ?v3b) rfl (by kernel_rfl) (by kernel_rfl) (by kernel_rfl) (fun _ _ _ h => h) (Or.inl ⟨by rfl, ?h3b⟩) (by assumption) ?r3b
    case h3b => intro w hSw; (try dsimp only at hSw); have q4 := (Keeps.cell hSw hb4 (fun h => h)).trans c4; go_simp; (try with_reducible rfl)
    try simp only [Act.put, List.setIfInBounds_toArray, List.set_cons_zero, List.set_cons_succ]
    refine wpAnyH_take (i := 4) (oi := ⟨some 12, _, _, _, _, _⟩) (v := ?v4b) rfl (by kernel_rfl) (by kernel_rfl) (by kernel_rfl) (fun _ _ _ h => h) (Or.inl ⟨by rfl, ?h4b⟩) (by assumption) ?r4b
    case h4b => intro w hSw; (try dsimp only at hSw); go_simp; (try with_reducible rfl)
    try simp only [Act.put, List.setIfInBounds_toArray, List.set_cons_zero, List.set_cons_succ]
    refine wpAnyH_ready (rs := [5]) (by kernel_rfl) (by simp) ?_
    refine AllReadyH.cons (o := ⟨some 13, _, _, _, _, _⟩) rfl (fun K hK => ?_) AllReadyH.nil
    go_simp; (go_at_call 64; refine (hl.out _).mono ?_; rintro z w4 ⟨rfl, hs4⟩)
    refine hK.out _ _ (by (try dsimp only); repeat (first | exact Keeps.refl _ _ | refine Keeps.drew ?_ | refine Keeps.drewN ?_ _ | refine Keeps.alloc ?_ _ | refine Keeps.setCell ?_ (by simp; try omega) _ | exact Hid.out (by assumption) | refine Keeps.trans ?_ (by assumption))) (fun hHeld => ?_)
    clear hK K
    try simp only [Act.put, List.setIfInBounds_toArray, List.set_cons_zero, List.set_cons_succ]
    refine wpAnyH_take (i := 6) (oi := ⟨some 14, _, _, _, _, _⟩) (v := ?v6b) rfl (by kernel_rfl) (by kernel_rfl) (by kernel_rfl) (fun _ _ _ h => h) (Or.inl ⟨by rfl, ?h6b⟩) (by assumption) ?r6b
    case h6b => intro w hSw; (try dsimp only at hSw); go_simp; (try with_reducible rfl)
    try simp only [Act.put, List.setIfInBounds_toArray, List.set_cons_zero, List.set_cons_succ]
    refine wpAnyH_take (i := 7) (oi := ⟨some 15, _, _, _, _, _⟩) (v := ?v7b) rfl (by kernel_rfl) (by kernel_rfl) (by kernel_rfl) (fun _ _ _ h => h) (Or.inl ⟨by rfl, ?h7b⟩) (by assumption) ?r7b
    case h7b => intro w hSw; (try dsimp only at hSw); go_simp; (try with_reducible rfl)
    try simp only [Act.put, List.setIfInBounds_toArray, List.set_cons_zero, List.set_cons_succ]
    refine wpAnyH_take (i := 8) (oi := ⟨some 7, _, _, _, _, _⟩) (v := ?v8b) rfl (by kernel_rfl) (by kernel_rfl) (by kernel_rfl) (fun _ _ _ h => h) (Or.inl ⟨by rfl, ?h8b⟩) (by assumption) ?r8b
    case h8b => intro w hSw; (try dsimp only at hSw); go_simp; (try with_reducible rfl)
    try simp only [Act.put, List.setIfInBounds_toArray, List.set_cons_zero, List.set_cons_succ]
    refine wpAnyH_done (by kernel_rfl) ?_ _
    have q3 := (Keeps.cell hHeld hb4 (fun h => h)).trans c3
    go_wp2_with fail
    go_ret
    exact ⟨rfl, by first | exact ((Keeps.refl _ _).alloc _).trans hHeld | (refine Keeps.drewN ?_ _; exact ((Keeps.refl _ _).alloc _).trans hHeld) | (refine Keeps.drew ?_; exact ((Keeps.refl _ _).alloc _).trans hHeld)⟩
end Go.Proofs.Ytalopgbkjgjppaa
