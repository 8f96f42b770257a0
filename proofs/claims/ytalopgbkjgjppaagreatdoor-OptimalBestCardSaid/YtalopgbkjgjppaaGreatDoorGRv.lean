/- Part of a proof: Rv, Bq. -/
import Derived.Test.YtalopgbkjgjppaaGreatDoorGNm
import Derived.Test.YtalopgbkjgjppaaGreatDoorGRrp
/- slices.Reverse over packets. -/
namespace Go.Proofs.YtalopgbkjgjppaaGreatDoor
open Go.RowKit Go.Cas

theorem cellsP_set (l : List Pk) (k : Nat) (p : Pk) (hk : k < l.length) :
    ((((cellsP l).set (k * 4) (i6 p.k)).set (k * 4 + 1) (i6 p.d)).set (k * 4 + 2) (i6 p.l)).set (k * 4 + 3) (b8 p.y) = cellsP (l.set k p) := by
  apply List.ext_getElem?
  intro x
  simp only [List.getElem?_set, List.length_set, cellsP_length]
  by_cases hx : x < l.length * 4
  · obtain ⟨a, b, hb, rfl⟩ : ∃ a b, b < 4 ∧ x = a * 4 + b := ⟨x / 4, x % 4, Nat.mod_lt _ (by decide), by omega⟩
    have ha : a < l.length := by omega
    have hr : (cellsP (l.set k p))[a * 4 + b]? = if k = a then p.cells[b]? else (l[a]).cells[b]? := by
      rw [cellsP_get (l.set k p) a b (if k = a then p else l[a]) (by rw [List.getElem?_set]; by_cases h : k = a <;> simp [h, ha]) hb]
      split <;> rfl
    rw [hr, cellsP_get l a b l[a] (by simp [ha]) hb]
    by_cases h : k = a
    · subst h
      rw [if_pos rfl]
      have : b = 0 ∨ b = 1 ∨ b = 2 ∨ b = 3 := by omega
      rcases this with rfl | rfl | rfl | rfl <;> simp [Pk.cells] <;> omega
    · rw [if_neg h, if_neg (by omega), if_neg (by omega), if_neg (by omega), if_neg (by omega)]
  · have e1 : (cellsP l)[x]? = none := List.getElem?_eq_none (by rw [cellsP_length]; omega)
    have e2 : (cellsP (l.set k p))[x]? = none := List.getElem?_eq_none (by rw [cellsP_length, List.length_set]; omega)
    rw [e1, e2, if_neg (by omega), if_neg (by omega), if_neg (by omega), if_neg (by omega)]

theorem Pks.put {w : World} {g cap : Nat} {l : List Pk} (h : Pks w (some ⟨g, 0, none⟩) cap l) (k : Nat) (p : Pk) (hk : k < l.length) :
    Pks ((((w.setCell ⟨g, k * 4, none⟩ (i6 p.k)).setCell ⟨g, k * 4 + 1, none⟩ (i6 p.d)).setCell ⟨g, k * 4 + 2, none⟩ (i6 p.l)).setCell ⟨g, k * 4 + 3, none⟩ (b8 p.y)) (some ⟨g, 0, none⟩) cap (l.set k p) := by
  have := (((h.own.stored (k * 4) (i6 p.k)).1.stored (k * 4 + 1) (i6 p.d)).1.stored (k * 4 + 2) (i6 p.l)).1.stored (k * 4 + 3) (b8 p.y)
  refine ⟨?_⟩
  rw [List.length_set, ← cellsP_set l k p hk]
  exact this.1

theorem keeps4 (w : World) (g a : Nat) (v0 v1 v2 v3 : Value) : Keeps (fun b => b = g) w ((((w.setCell ⟨g, a, none⟩ v0).setCell ⟨g, a + 1, none⟩ v1).setCell ⟨g, a + 2, none⟩ v2).setCell ⟨g, a + 3, none⟩ v3) :=
  Keeps.setCell (S := fun b => b = g) (p := ⟨g, a + 3, none⟩) (Keeps.setCell (S := fun b => b = g) (p := ⟨g, a + 2, none⟩) (Keeps.setCell (S := fun b => b = g) (p := ⟨g, a + 1, none⟩) (Keeps.setCell (S := fun b => b = g) (p := ⟨g, a, none⟩) (Keeps.refl (fun b => b = g) w) (fun _ => rfl) _) (fun _ => rfl) _) (fun _ => rfl) _) (fun _ => rfl) _

theorem Pks.frozen {w : World} {g cap : Nat} {l : List Pk} (h : Pks w (some ⟨g, 0, none⟩) cap l) (j : Nat) : w.frozen? ⟨g, j, none⟩ = false := h.own.frozenAt j

/-- The loop of Reverse. -/
def swapO (l : List Pk) (i j : Nat) (p q : Pk) : List Pk := (l.set i q).set j p
def revGo : Nat → Nat → Int → List Pk → List Pk
  | 0, _, _, l => l
  | f + 1, i, j, l => if (i : Int) < j then
      match l[i]?, l[j.toNat]? with
      | some p, some q => revGo f (i + 1) (j - 1) (swapO l i j.toNat p q)
      | _, _ => l
    else l

theorem revGo_length : ∀ (f i : Nat) (j : Int) (l : List Pk), (revGo f i j l).length = l.length
  | 0, _, _, _ => rfl
  | f + 1, i, j, l => by
    unfold revGo
    split
    · split
      · rw [revGo_length f]; simp [swapO]
      · rfl
    · rfl

theorem revGo_get : ∀ (f i : Nat) (j : Int) (l : List Pk), (j - i + 1 ≤ 2 * f) → (i : Int) + j + 1 = l.length → ∀ x, (revGo f i j l)[x]? = if i ≤ x ∧ (x : Int) ≤ j then l[(i + j).toNat - x]? else l[x]?
  | 0, i, j, l, hf, hs, x => by
    rw [if_neg (by omega)]
    rfl
  | f + 1, i, j, l, hf, hs, x => by
    unfold revGo
    by_cases hij : (i : Int) < j
    · rw [if_pos hij]
      have hil : i < l.length := by omega
      have hjl : j.toNat < l.length := by omega
      rw [show l[i]? = some l[i] from by simp [hil], show l[j.toNat]? = some l[j.toNat] from by simp [hjl]]
      dsimp only
      rw [revGo_get f (i + 1) (j - 1) _ (by push_cast; omega) (by simp [swapO]; omega)]
      have e : ((i + 1 : Nat) + (j - 1) : Int).toNat = (i + j).toNat := by push_cast; congr 1; omega
      rw [e]
      have g : ∀ y, (swapO l i j.toNat l[i] l[j.toNat])[y]? = if j.toNat = y then some l[i] else if i = y then some l[j.toNat] else l[y]? := by
        intro y
        unfold swapO
        rw [List.getElem?_set, List.length_set, List.getElem?_set]
        by_cases h1 : j.toNat = y
        · rw [if_pos h1, if_pos hjl, if_pos h1]
        · rw [if_neg h1, if_neg h1]
          by_cases h2 : i = y
          · rw [if_pos h2, if_pos hil, if_pos h2]
          · rw [if_neg h2, if_neg h2]
      rw [g, g]
      by_cases hx : i ≤ x ∧ (x : Int) ≤ j
      · rw [if_pos hx]
        by_cases hx2 : i + 1 ≤ x ∧ (x : Int) ≤ j - 1
        · rw [if_pos (by push_cast; omega), if_neg (by omega), if_neg (by omega)]
        · rw [if_neg (by push_cast; omega)]
          by_cases hxj : j.toNat = x
          · rw [if_pos hxj, show (i + j).toNat - x = i from by omega]; simp [hil]
          · rw [if_neg hxj, if_pos (by omega), show (i + j).toNat - x = j.toNat from by omega]; simp [hjl]
      · rw [if_neg hx, if_neg (by push_cast; omega), if_neg (by omega), if_neg (by omega)]
    · rw [if_neg hij]
      by_cases hx : i ≤ x ∧ (x : Int) ≤ j
      · rw [if_pos hx]; congr 1; omega
      · rw [if_neg hx]

theorem revGo_is (l : List Pk) (f : Nat) (hf : l.length ≤ 2 * f) : revGo f 0 ((l.length : Int) - 1) l = l.reverse := by
  apply List.ext_getElem?
  intro x
  rw [revGo_get f 0 _ l (by omega) (by omega)]
  by_cases hx : x < l.length
  · rw [if_pos (by omega), List.getElem?_reverse hx]; congr 1; omega
  · rw [if_neg (by omega), List.getElem?_eq_none (by omega), List.getElem?_eq_none (by simp; omega)]

set_option maxHeartbeats 4000000 in
set_option maxRecDepth 100000 in
theorem rev_any (g cap : Nat) (l : List Pk) (w : World) (h : Pks w (some ⟨g, 0, none⟩) cap l) (hn : l.length ≤ 1000002) :
    Calls Tryz.prog 75 #[.slice (some ⟨g, 0, none⟩) l.length cap] w fun z w' => z = .returned (.tuple #[]) ∧ Pks w' (some ⟨g, 0, none⟩) cap l.reverse ∧ Keeps (fun b => b = g) w w' := by
  have hR := revGo_is l l.length (by omega)
  obtain ⟨R, hRR⟩ : ∃ R, l.reverse = R := ⟨_, rfl⟩
  rw [hRR] at hR ⊢
  have HR := hid hRR
  clear hRR
  have hw : IntKind.i64.wrap ((l.length : Int) - 1) = (l.length : Int) - 1 := IntWalk.i64_in _ (by omega)
  go_enter Tryz.func75, Tryz.ntmps75
  go_wp2_with fail
  go_loopw [2, 3] (fun s2 s3 wx => ∃ (i : Nat) (j : Int) (f : Nat) (k : List Pk), s2 = i6 i ∧ s3 = i6 j ∧ Pks wx (some ⟨g, 0, none⟩) cap k ∧ k.length = l.length ∧ revGo f i j k = R ∧ j - i + 1 ≤ 2 * f ∧ (i : Int) + j + 1 = l.length ∧ Keeps (fun b => b = g) w wx) (fun s2 s3 _ => (intOf s3 - intOf s2 + 2).toNat)
  case atStart =>
    exact ⟨0, (l.length : Int) - 1, l.length, l, rfl, rfl, h, rfl, hR, by omega, by omega, Keeps.refl _ _⟩
  case round =>
    obtain ⟨i, j, f, k, rfl, rfl, hP, hkl, hrev, hf, hs, hK⟩ := hrel
    by_cases hij : (i : Int) < j
    · obtain ⟨jn, rfl⟩ : ∃ jn : Nat, j = jn := ⟨j.toNat, by omega⟩
      obtain ⟨f', rfl⟩ : ∃ f', f = f' + 1 := ⟨f - 1, by omega⟩
      have hil : i < k.length := by omega
      have hjl : jn < k.length := by omega
      have ei : k[i]? = some k[i] := by simp [hil]
      have ej : k[jn]? = some k[jn] := by simp [hjl]
      unfold revGo at hrev
      rw [if_pos hij, Int.toNat_natCast, ei, ej] at hrev
      dsimp only at hrev
      obtain ⟨p, hp⟩ : ∃ p, k[i] = p := ⟨_, rfl⟩
      obtain ⟨q, hq⟩ : ∃ q, k[jn] = q := ⟨_, rfl⟩
      rw [hp] at ei hrev
      rw [hq] at ej hrev
      obtain ⟨a0, a1, a2, a3⟩ := hP.at i p ei
      obtain ⟨b0, b1, b2, b3⟩ := hP.at jn q ej
      have hP1 := hP.put i q hil
      have ej1 : (k.set i q)[jn]? = some q := by rw [List.getElem?_set, if_neg (by omega)]; exact ej
      obtain ⟨d0, d1, d2, d3⟩ := hP1.at jn q ej1
      have fr1 := hP1.frozen
      have hP2 := hid (hP1.put jn p (by simpa using hjl))
      have fr := hP.frozen
      have hgl := hP.lt g (by simp [sblk])
      have HRV := hid hrev
      have HKL := hid hkl
      clear hrev ei ej hp hq hP1 ej1
      have hil' : i < l.length := by omega
      have hjl' : jn < l.length := by omega
      have hij0 : decide ((i : Int) < (jn : Int)) = true := by simpa using hij
      clear hkl hil hjl
      go_wp2_with fail
      refine wp_region_held_drew (S := (fun _ => True)) (by kernel_rfl) (by (try dsimp only); skip; (try exact trivial)) (fun hHeld => ?_)
      refine wpAnyH_take (i := 0) (oi := ⟨some 14, _, _, _, _, _⟩) (v := ?v0r) rfl (by kernel_rfl) (by kernel_rfl) (by kernel_rfl) (fun _ _ _ h => h) (Or.inl ⟨by rfl, ?h0r⟩) (by assumption) ?r0r
      case h0r => intro w hSw; (try dsimp only at hSw); go_simp; (try with_reducible rfl)
      try simp only [Act.put, List.setIfInBounds_toArray, List.set_cons_zero, List.set_cons_succ]
      refine wpAnyH_take (i := 1) (oi := ⟨some 15, _, _, _, _, _⟩) (v := ?v1r) rfl (by kernel_rfl) (by kernel_rfl) (by kernel_rfl) (fun _ _ _ h => h) (Or.inl ⟨by rfl, ?h1r⟩) (by assumption) ?r1r
      case h1r => intro w hSw; (try dsimp only at hSw); go_simp; (try with_reducible rfl)
      try simp only [Act.put, List.setIfInBounds_toArray, List.set_cons_zero, List.set_cons_succ]
      refine wpAnyH_take (i := 2) (oi := ⟨some 16, _, _, _, _, _⟩) (v := ?v2r) rfl (by kernel_rfl) (by kernel_rfl) (by kernel_rfl) (fun _ _ _ h => h) (Or.inl ⟨by rfl, ?h2r⟩) (by assumption) ?r2r
      case h2r => intro w hSw; (try dsimp only at hSw); go_simp; (try with_reducible rfl)
      try simp only [Act.put, List.setIfInBounds_toArray, List.set_cons_zero, List.set_cons_succ]
      refine wpAnyH_take (i := 3) (oi := ⟨some 17, _, _, _, _, _⟩) (v := ?v3r) rfl (by kernel_rfl) (by kernel_rfl) (by kernel_rfl) (fun _ _ _ h => h) (Or.inl ⟨by rfl, ?h3r⟩) (by assumption) ?r3r
      case h3r => intro w hSw; (try dsimp only at hSw); go_simp; (try with_reducible rfl)
      try simp only [Act.put, List.setIfInBounds_toArray, List.set_cons_zero, List.set_cons_succ]
      refine wpAnyH_take (i := 4) (oi := ⟨some 18, _, _, _, _, _⟩) (v := ?v4r) rfl (by kernel_rfl) (by kernel_rfl) (by kernel_rfl) (fun _ _ _ h => h) (Or.inl ⟨by rfl, ?h4r⟩) (by assumption) ?r4r
      case h4r => intro w hSw; (try dsimp only at hSw); go_simp; (try with_reducible rfl)
      try simp only [Act.put, List.setIfInBounds_toArray, List.set_cons_zero, List.set_cons_succ]
      refine wpAnyH_take (i := 5) (oi := ⟨some 19, _, _, _, _, _⟩) (v := ?v5r) rfl (by kernel_rfl) (by kernel_rfl) (by kernel_rfl) (fun _ _ _ h => h) (Or.inl ⟨by rfl, ?h5r⟩) (by assumption) ?r5r
      case h5r => intro w hSw; (try dsimp only at hSw); go_simp; (try with_reducible rfl)
      try simp only [Act.put, List.setIfInBounds_toArray, List.set_cons_zero, List.set_cons_succ]
      refine wpAnyH_take (i := 6) (oi := ⟨some 20, _, _, _, _, _⟩) (v := ?v6r) rfl (by kernel_rfl) (by kernel_rfl) (by kernel_rfl) (fun _ _ _ h => h) (Or.inl ⟨by rfl, ?h6r⟩) (by assumption) ?r6r
      case h6r => intro w hSw; (try dsimp only at hSw); go_simp; (try with_reducible rfl)
      try simp only [Act.put, List.setIfInBounds_toArray, List.set_cons_zero, List.set_cons_succ]
      refine wpAnyH_take (i := 8) (oi := ⟨some 22, _, _, _, _, _⟩) (v := ?v8r) rfl (by kernel_rfl) (by kernel_rfl) (by kernel_rfl) (fun _ _ _ h => h) (Or.inl ⟨by rfl, ?h8r⟩) (by assumption) ?r8r
      case h8r => intro w hSw; (try dsimp only at hSw); go_simp; (try with_reducible rfl)
      try simp only [Act.put, List.setIfInBounds_toArray, List.set_cons_zero, List.set_cons_succ]
      refine wpAnyH_take (i := 9) (oi := ⟨some 23, _, _, _, _, _⟩) (v := ?v9r) rfl (by kernel_rfl) (by kernel_rfl) (by kernel_rfl) (fun _ _ _ h => h) (Or.inl ⟨by rfl, ?h9r⟩) (by assumption) ?r9r
      case h9r => intro w hSw; (try dsimp only at hSw); go_simp; (try with_reducible rfl)
      try simp only [Act.put, List.setIfInBounds_toArray, List.set_cons_zero, List.set_cons_succ]
      refine wpAnyH_take (i := 10) (oi := ⟨some 24, _, _, _, _, _⟩) (v := ?v10r) rfl (by kernel_rfl) (by kernel_rfl) (by kernel_rfl) (fun _ _ _ h => h) (Or.inl ⟨by rfl, ?h10r⟩) (by assumption) ?r10r
      case h10r => intro w hSw; (try dsimp only at hSw); go_simp; (try with_reducible rfl)
      try simp only [Act.put, List.setIfInBounds_toArray, List.set_cons_zero, List.set_cons_succ]
      refine wpAnyH_ready (rs := [7, 11]) (by kernel_rfl) (by simp) ?_
      refine AllReadyH.cons (o := ⟨some 21, _, _, _, _, _⟩) rfl (fun K hK => ?_) (AllReadyH.cons (o := ⟨some 25, _, _, _, _, _⟩) rfl (fun K hK => ?_) AllReadyH.nil)
      · go_simp
        refine hK.out _ _ (by (try dsimp only); skip; (try exact trivial)) (fun hHeld => ?_)
        clear hK K
        try simp only [Act.put, List.setIfInBounds_toArray, List.set_cons_zero, List.set_cons_succ]
        refine wpAnyH_ready (rs := [11]) (by kernel_rfl) (by simp) ?_
        refine AllReadyH.cons (o := ⟨some 25, _, _, _, _, _⟩) rfl (fun K hK => ?_) AllReadyH.nil
        go_simp
        refine hK.out _ _ (by (try dsimp only); skip; (try exact trivial)) (fun hHeld => ?_)
        clear hK K
        try simp only [Act.put, List.setIfInBounds_toArray, List.set_cons_zero, List.set_cons_succ]
        refine wpAnyH_take (i := 12) (oi := ⟨some 26, _, _, _, _, _⟩) (v := ?v12a) rfl (by kernel_rfl) (by kernel_rfl) (by kernel_rfl) (fun _ _ _ h => h) (Or.inl ⟨by rfl, ?h12a⟩) (by assumption) ?r12a
        case h12a => intro w hSw; (try dsimp only at hSw); go_simp; (try with_reducible rfl)
        try simp only [Act.put, List.setIfInBounds_toArray, List.set_cons_zero, List.set_cons_succ]
        refine wpAnyH_ready (rs := [13]) (by kernel_rfl) (by simp) ?_
        refine AllReadyH.cons (o := ⟨none, _, _, _, _, _⟩) rfl (fun K hK => ?_) AllReadyH.nil
        go_simp
        refine hK.out _ _ (by (try dsimp only); skip; (try exact trivial)) (fun hHeld => ?_)
        clear hK K
        try simp only [Act.put, List.setIfInBounds_toArray, List.set_cons_zero, List.set_cons_succ]
        refine wpAnyH_take (i := 14) (oi := ⟨some 27, _, _, _, _, _⟩) (v := ?v14a) rfl (by kernel_rfl) (by kernel_rfl) (by kernel_rfl) (fun _ _ _ h => h) (Or.inl ⟨by rfl, ?h14a⟩) (by assumption) ?r14a
        case h14a => intro w hSw; (try dsimp only at hSw); go_simp; (try with_reducible rfl)
        try simp only [Act.put, List.setIfInBounds_toArray, List.set_cons_zero, List.set_cons_succ]
        refine wpAnyH_ready (rs := [15]) (by kernel_rfl) (by simp) ?_
        refine AllReadyH.cons (o := ⟨none, _, _, _, _, _⟩) rfl (fun K hK => ?_) AllReadyH.nil
        go_simp
        refine hK.out _ _ (by (try dsimp only); skip; (try exact trivial)) (fun hHeld => ?_)
        clear hK K
        try simp only [Act.put, List.setIfInBounds_toArray, List.set_cons_zero, List.set_cons_succ]
        refine wpAnyH_done (by kernel_rfl) ?_ _
        go_wp2_with fail
        exact ⟨⟨i + 1, (jn : Int) - 1, f', swapO k i jn p q, by go_num, rfl, hP2.out.keeps (Keeps.refl (fun _ => False) _).drew (fun _ _ h => h), by simp [swapO]; exact HKL.out, HRV.out, by push_cast; omega, by push_cast; omega, hK.trans ((keeps4 _ _ _ _ _ _ _).trans (keeps4 _ _ _ _ _ _ _)).drew⟩, by simp [intOf]; omega⟩
      · go_simp
        refine hK.out _ _ (by (try dsimp only); skip; (try exact trivial)) (fun hHeld => ?_)
        clear hK K
        try simp only [Act.put, List.setIfInBounds_toArray, List.set_cons_zero, List.set_cons_succ]
        refine wpAnyH_ready (rs := [7]) (by kernel_rfl) (by simp) ?_
        refine AllReadyH.cons (o := ⟨some 21, _, _, _, _, _⟩) rfl (fun K hK => ?_) AllReadyH.nil
        go_simp
        refine hK.out _ _ (by (try dsimp only); skip; (try exact trivial)) (fun hHeld => ?_)
        clear hK K
        try simp only [Act.put, List.setIfInBounds_toArray, List.set_cons_zero, List.set_cons_succ]
        refine wpAnyH_take (i := 12) (oi := ⟨some 26, _, _, _, _, _⟩) (v := ?v12b) rfl (by kernel_rfl) (by kernel_rfl) (by kernel_rfl) (fun _ _ _ h => h) (Or.inl ⟨by rfl, ?h12b⟩) (by assumption) ?r12b
        case h12b => intro w hSw; (try dsimp only at hSw); go_simp; (try with_reducible rfl)
        try simp only [Act.put, List.setIfInBounds_toArray, List.set_cons_zero, List.set_cons_succ]
        refine wpAnyH_ready (rs := [13]) (by kernel_rfl) (by simp) ?_
        refine AllReadyH.cons (o := ⟨none, _, _, _, _, _⟩) rfl (fun K hK => ?_) AllReadyH.nil
        go_simp
        refine hK.out _ _ (by (try dsimp only); skip; (try exact trivial)) (fun hHeld => ?_)
        clear hK K
        try simp only [Act.put, List.setIfInBounds_toArray, List.set_cons_zero, List.set_cons_succ]
        refine wpAnyH_take (i := 14) (oi := ⟨some 27, _, _, _, _, _⟩) (v := ?v14b) rfl (by kernel_rfl) (by kernel_rfl) (by kernel_rfl) (fun _ _ _ h => h) (Or.inl ⟨by rfl, ?h14b⟩) (by assumption) ?r14b
        case h14b => intro w hSw; (try dsimp only at hSw); go_simp; (try with_reducible rfl)
        try simp only [Act.put, List.setIfInBounds_toArray, List.set_cons_zero, List.set_cons_succ]
        refine wpAnyH_ready (rs := [15]) (by kernel_rfl) (by simp) ?_
        refine AllReadyH.cons (o := ⟨none, _, _, _, _, _⟩) rfl (fun K hK => ?_) AllReadyH.nil
        go_simp
        refine hK.out _ _ (by (try dsimp only); skip; (try exact trivial)) (fun hHeld => ?_)
        clear hK K
        try simp only [Act.put, List.setIfInBounds_toArray, List.set_cons_zero, List.set_cons_succ]
        refine wpAnyH_done (by kernel_rfl) ?_ _
        go_wp2_with fail
        exact ⟨⟨i + 1, (jn : Int) - 1, f', swapO k i jn p q, by go_num, rfl, hP2.out.keeps (Keeps.refl (fun _ => False) _).drew (fun _ _ h => h), by simp [swapO]; exact HKL.out, HRV.out, by push_cast; omega, by push_cast; omega, hK.trans ((keeps4 _ _ _ _ _ _ _).trans (keeps4 _ _ _ _ _ _ _)).drew⟩, by simp [intOf]; omega⟩
    · have hl : revGo f i j k = k := by
        cases f with
        | zero => rfl
        | succ f => unfold revGo; rw [if_neg hij]
      rw [hl] at hrev
      have hij0 : decide ((i : Int) < j) = false := by simpa using hij
      have HRV := hid hrev
      clear hl hrev hij
      clear hkl
      go_wp2_with fail
      go_end0
      exact ⟨rfl, by rw [← HRV.out]; exact hP, hK⟩
end Go.Proofs.YtalopgbkjgjppaaGreatDoor

/- optimal.back: the pieces, from the end. -/
namespace Go.Proofs.YtalopgbkjgjppaaGreatDoor
open Go.RowKit Go.Cas

def backGo (O : List Opt) : Nat → Int → List Pk
  | 0, _ => []
  | f + 1, a => if 0 < a then (oat O a.toNat).2 :: backGo O f (a - max (oat O a.toNat).2.l 1) else []
def obackL (O : List Opt) : List Pk := (backGo O O.length ((O.length : Int) - 1)).reverse

theorem backGo_stop (O : List Opt) (f : Nat) (a : Int) (h : ¬ 0 < a) : backGo O f a = [] := by
  cases f with
  | zero => rfl
  | succ f => unfold backGo; rw [if_neg h]

set_option maxHeartbeats 4000000 in
set_option maxRecDepth 100000 in
theorem rev_nil (w : World) :
    Calls Tryz.prog 75 #[.slice none 0 0] w fun z w' => z = .returned (.tuple #[]) ∧ w' = w := by
  go_enter Tryz.func75, Tryz.ntmps75
  go_wp2_with fail
  go_loopw [2, 3] (fun s2 s3 wx => s2 = i6 0 ∧ s3 = i6 (-1) ∧ wx = w) (fun _ _ _ => 0)
  case atStart => exact ⟨rfl, rfl, rfl⟩
  case round =>
    obtain ⟨rfl, rfl, rfl⟩ := hrel
    go_wp2_with fail
    go_end0
    exact ⟨rfl, rfl⟩

def BackLeft (w w' : World) (z : Ending) (L : List Pk) : Prop := ∃ q c, z = .returned (.slice q L.length c) ∧ Pks w' q c L ∧ Same w w' ∧ ∀ b, sblk q b → w.heap.size ≤ b

set_option maxHeartbeats 4000000 in
set_option maxRecDepth 100000 in
theorem oback_any (g cap : Nat) (O : List Opt) (w : World) (hO : ORow w g O) (h1 : 1 ≤ O.length) (h2 : O.length ≤ 1000001) (hl : ∀ j, 0 ≤ (oat O j).2.l ∧ (oat O j).2.l ≤ 1000000) :
    Calls Tryz.prog 43 #[.slice (some ⟨g, 0, none⟩) O.length cap] w fun z w' => BackLeft w w' z (obackL O) := by
  obtain ⟨i0, HI⟩ := info_hid Tryz.infoP
  have hwr : IntKind.i64.wrap ((O.length : Int) - 1) = (O.length : Int) - 1 := IntWalk.i64_in _ (by omega)
  unfold obackL
  obtain ⟨R, hR⟩ : ∃ R, backGo O O.length ((O.length : Int) - 1) = R := ⟨_, rfl⟩
  rw [hR]
  have HL := hid hl
  clear hl
  go_enter Tryz.func43, Tryz.ntmps43
  go_wp2_with fail
  go_loopw [3, 4] (fun s3 s4 wx => ∃ (a : Int) (f : Nat) (q1 : Option Addr) (c1 : Nat) (ol : List Pk), s3 = .slice q1 ol.length c1 ∧ s4 = i6 a ∧ ol ++ backGo O f a = R ∧ a < O.length ∧ a ≤ f ∧ -2000000 ≤ a ∧ (0 ≤ a → (ol.length : Int) + a ≤ O.length) ∧ ol.length ≤ O.length ∧ Pks wx q1 c1 ol ∧ (∀ b, sblk q1 b → w.heap.size ≤ b) ∧ Same w wx) (fun _ s4 _ => (intOf s4).toNat)
  case atStart =>
    exact ⟨(O.length : Int) - 1, O.length, none, 0, [], rfl, rfl, hR, by omega, by omega, by omega, fun _ => by simp; omega, by simp, ⟨World.ownsRow_nil _ _ _ _⟩, by simp [sblk], Keeps.refl _ _⟩
  case round =>
    obtain ⟨a, f, q1, c1, ol, rfl, rfl, hr, haO, haf, ha2, hol, hol2, hP, hge, hsm⟩ := hrel
    by_cases ha : 0 < a
    · obtain ⟨an, rfl⟩ : ∃ an : Nat, a = an := ⟨a.toNat, by omega⟩
      obtain ⟨f', rfl⟩ : ∃ f', f = f' + 1 := ⟨f - 1, by omega⟩
      unfold backGo at hr
      rw [if_pos ha, Int.toNat_natCast] at hr
      have haO' : an < O.length := by omega
      have hget : O[an]? = some (oat O an) := by unfold oat; simp [haO']
      have hO2 : ORow wr g O := hO.keeps hsm (fun h => h)
      obtain ⟨x0, x1, x2, x3, x4⟩ := hO2.at an _ hget
      have hL := HL.out an
      obtain ⟨p, hp⟩ : ∃ p, (oat O an).2 = p := ⟨_, rfl⟩
      rw [hp] at x1 x2 x3 x4 hL hr
      obtain ⟨pk, pd, pl, py⟩ := p
      dsimp only at x1 x2 x3 x4 hL hr
      have H1 := hid (show ol.length + 1 ≤ maxLen by unfold maxLen; omega)
      have H2 := hid (show (ol.length + 1) * 32 ≤ 140737488355328 by omega)
      have d1 : decide ((0 : Int) < (an : Int)) = true := by simpa using ha
      have d2 : decide ((an : Int) > 0) = true := by simpa using ha
      have hmx : IntKind.i64.wrap ((an : Int) - max pl 1) = (an : Int) - max pl 1 := IntWalk.i64_in _ (by omega)
      have HRR := hid hr
      have hnb : ¬ sblk q1 wr.heap.size := fun e => by have := hP.lt _ e; omega
      clear hp hget hr x0
      go_wp2_with ((at_builtin; refine wpList_push _ rfl (.tmp 16) (.tmp 18) 28 rfl 39 i0 (.agg #[.int .i64 0, .int .i64 0, .int .i64 0, .int .u8 0]) 4 32 Tryz.underlying28 HI zP (by decide) q1 ol.length c1 (cellsP ol) ?_ ?_ ⟨wr.heap.size + 1, 0, none⟩ 1 1 (Pk.cells ⟨pk, pd, pl, py⟩) ?_ rfl ?_ (pk_one _ _ _ _) H1 H2 ?_; exact rfl; exact (hP.own.alloc _).alloc _; exact rfl; exact cells_four_at (by simp); intro q2 c2 w6 hown6 hk6 hat6 _; have HR := hid (Sl.push (hsm.alloc _) hge hown6 hk6 hat6); have hb6 := Blk.keeps ((Blk.new wr #[i6 pk, i6 pd, i6 pl, b8 py] 39).alloc _) hk6 hnb; have d0 := hb6.cell 2; simp only [List.getElem?_toArray, List.getElem?_cons_succ, List.getElem?_cons_zero] at d0; clear hown6 hk6 hat6))
      obtain ⟨t1, t2, t3, t4, t5⟩ := HR.out
      have hmx2 : 1 ≤ max pl 1 ∧ max pl 1 ≤ 1000000 := by omega
      exact ⟨⟨(an : Int) - max pl 1, f', q2, c2, ol ++ [⟨pk, pd, pl, py⟩], by simp, rfl, by rw [List.append_assoc]; exact HRR.out, by omega, by omega, by omega, fun h => by simp; omega, by simp; omega, ⟨by rw [List.length_append, cellsP_snoc]; exact t1.own⟩, t2, t3⟩, by show ((an : Int) - max pl 1).toNat < (an : Int).toNat; omega⟩
    · rw [backGo_stop O f a ha, List.append_nil] at hr
      subst hr
      have d1 : decide ((0 : Int) < a) = false := by simpa using ha
      have d2 : decide (a > 0) = false := by simpa using ha
      clear ha hol
      have hown := hP.own.2
      rcases hown with ⟨e1, e2⟩ | ⟨g', c', cur, e1, _⟩
      · simp only [Value.slice.injEq] at e1
        obtain ⟨rfl, e3, rfl⟩ := e1
        obtain rfl : ol = [] := List.eq_nil_of_length_eq_zero e3
        go_wp2_with (go_at_call 75; refine (rev_nil _).mono ?_; rintro z w4 ⟨rfl, rfl⟩)
        go_ret
        exact ⟨none, 0, rfl, hP, hsm, hge⟩
      · simp only [Value.slice.injEq] at e1
        obtain ⟨rfl, _, rfl⟩ := e1
        have hRv := hid (rev_any g' c1 ol wr hP (by omega))
        go_wp2_with (go_at_call 75; refine hRv.out.mono ?_; rintro z w4 ⟨rfl, hP4, hK4⟩)
        go_ret
        refine ⟨some ⟨g', 0, none⟩, c1, by rw [List.length_reverse]; rfl, hP4, ?_, hge⟩
        exact hsm.trans' hK4 fun b hb e => by have := hge g' (by simp [sblk]); omega
end Go.Proofs.YtalopgbkjgjppaaGreatDoor
