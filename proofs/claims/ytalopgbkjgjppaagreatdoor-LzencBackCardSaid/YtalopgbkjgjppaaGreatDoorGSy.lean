/- Part of a proof: Sy, Sz, Sw, Sv, Cb. -/
import Derived.Test.YtalopgbkjgjppaaGreatDoorGGt
import Derived.Test.YtalopgbkjgjppaaGreatDoorGNl
/- The plain law of coding: what is put is got. -/
namespace Go.Proofs.YtalopgbkjgjppaaGreatDoor
open Go.RowKit Go.Cas Go.Cas.Enc

/-- All probabilities are such. -/
def okS (Y : Lay) (P : Prb) : Prop := ∀ i, Y.used i → okRow (P i) i
theorem okS.row {Y : Lay} {P : Prb} {i : Nat} {f : Nat → Nat} (h : okS Y P) (hf : okRow f i) : okS Y (P.row i f) := fun j hj => by
  by_cases e : j = i
  · subst e; rw [Prb.row_same]; exact hf
  · rw [Prb.row_other _ _ e]; exact h j hj

/-- What the one way puts the other gets. -/
def Sy {α : Type} (Y : Lay) (pt : Nat) (f g : CSt → α × CSt) (v : α) : Prop :=
  ∀ (E : Cas.Enc) (P : Prb), Enc.Good E → okS Y P → ∃ E' P', f (.enc E, P) = (v, .enc E', P') ∧ Enc.Good E' ∧ Enc.Within E E' ∧ okS Y P' ∧
    ∀ B, Lies B E' → g (.dec (Dec.at_ B E pt), P) = (v, .dec (Dec.at_ B E' pt), P')

theorem Sy.bind {α β : Type} {Y : Lay} {pt : Nat} {f g : CSt → α × CSt} {v : α} {f2 g2 : α → CSt → β × CSt} {u : β} (h : Sy Y pt f g v) (k : Sy Y pt (f2 v) (g2 v) u) :
    Sy Y pt (fun s => f2 (f s).1 (f s).2) (fun s => g2 (g s).1 (g s).2) u := by
  intro E P hE hP
  obtain ⟨E1, P1, h1, h2, h3, h4, h5⟩ := h E P hE hP
  obtain ⟨E2, P2, k1, k2, k3, k4, k5⟩ := k E1 P1 h2 h4
  refine ⟨E2, P2, ?_, k2, h3.trans k3, k4, fun B hB => ?_⟩
  · dsimp only; rw [h1]; exact k1
  · dsimp only; rw [h5 B (hB.of k3)]; exact k5 B hB

theorem Sy.pure {α : Type} {Y : Lay} {pt : Nat} (v : α) : Sy Y pt (fun s => (v, s)) (fun s => (v, s)) v := fun E P hE hP =>
  ⟨E, P, rfl, hE, Enc.Within.refl _, hP, fun _ _ => rfl⟩

theorem Sy.map {α β : Type} {Y : Lay} {pt : Nat} {f g : CSt → α × CSt} {v : α} (m : α → β) (h : Sy Y pt f g v) : Sy Y pt (fun s => (m (f s).1, (f s).2)) (fun s => (m (g s).1, (g s).2)) (m v) :=
  h.bind (f2 := fun a s => (m a, s)) (g2 := fun a s => (m a, s)) (Sy.pure _)

theorem bitP_e (i o h : Nat) (E : Cas.Enc) (P : Prb) : bitP i o h (.enc E, P) = (h, .enc (E.bit (P i o) h), P.row i (updF (P i) o (learnP (P i o) h))) := rfl
theorem bitP_d (i o h : Nat) (D : Dec) (P : Prb) : bitP i o h (.dec D, P) = ((D.bit (P i o)).1, .dec (D.bit (P i o)).2, P.row i (updF (P i) o (learnP (P i o) (D.bit (P i o)).1))) := rfl
theorem sy_bit {Y : Lay} {pt i o h h' : Nat} (hu : Y.used i) (hio : i = 0 ∧ 10 ≤ o ∧ o < 442 ∨ (i = 1 ∨ i = 2) ∧ o < 2) (hh : h ≤ 1) : Sy Y pt (bitP i o h) (bitP i o h') h := by
  intro E P hE hP
  have hok := hP i hu
  have hpr : ∀ b, okPr (P i o) ∧ okRow (updF (P i) o (learnP (P i o) b)) i := fun b => by
    rcases hio with ⟨rfl, h1, h2⟩ | ⟨hi, h2⟩
    · exact ok_bit0 hok h1 h2
    · exact ok_bit12 hi hok h2
  obtain ⟨h2, h3⟩ := bit_step hE (hpr h).1 h
  refine ⟨E.bit (P i o) h, P.row i (updF (P i) o (learnP (P i o) h)), bitP_e i o h E P, h2, h3, hP.row (hpr h).2, fun B hB => ?_⟩
  have hs := sync_bit hE (hpr h).1 hh hB pt
  rw [bitP_d]
  generalize (Dec.at_ B E pt).bit (P i o) = r at *
  subst hs
  rfl
theorem cbit_e (E : Cas.Enc) (p h : Nat) : (Cdr.enc E).bit p h = (h, .enc (E.bit p h)) := rfl
theorem cbit_d (D : Dec) (p h : Nat) : (Cdr.dec D).bit p h = ((D.bit p).1, .dec (D.bit p).2) := rfl

theorem treeR_sync {N T pt v v' : Nat} (hN : 2 ^ T ≤ N) : ∀ (n m : Nat) (E : Cas.Enc) (f : Nat → Nat), Enc.Good E → TreeOk f N → (m + 1) * 2 ^ n ≤ 2 ^ (T + 1) →
    ∃ x E' f', treeR v n m (.enc E) f = (x, .enc E', f') ∧ Enc.Good E' ∧ Enc.Within E E' ∧ TreeOk f' N ∧ ∀ B, Lies B E' → treeR v' n m (.dec (Dec.at_ B E pt)) f = (x, .dec (Dec.at_ B E' pt), f')
  | 0, m, E, f, hE, hf, _ => ⟨m, E, f, rfl, hE, Enc.Within.refl _, hf, fun _ _ => rfl⟩
  | n + 1, m, E, f, hE, hf, hm => by
    have hmN : m < N := by
      have h1 : (m + 1) * 2 ^ 1 ≤ (m + 1) * 2 ^ (n + 1) := Nat.mul_le_mul_left _ (Nat.pow_le_pow_right (by decide) (by omega))
      have h2 : 2 ^ (T + 1) = 2 * 2 ^ T := by rw [Nat.pow_succ]; omega
      omega
    obtain ⟨b, hb⟩ : ∃ b, v / 2 ^ n % 2 = b := ⟨_, rfl⟩
    have hb1 : b ≤ 1 := by omega
    obtain ⟨s1, s2⟩ := bit_step hE (hf m hmN) b
    have e : (m + 1) * 2 ^ (n + 1) = (2 * m + 2) * 2 ^ n := by rw [Nat.pow_succ, Nat.mul_comm (2 ^ n) 2, ← Nat.mul_assoc]; congr 1; omega
    have h6 : (2 * m + b + 1) * 2 ^ n ≤ (2 * m + 2) * 2 ^ n := Nat.mul_le_mul_right _ (by omega)
    obtain ⟨x, E', f', r1, r2, r3, r4, r5⟩ := treeR_sync hN n (2 * m + b) (E.bit (f m) b) (updF f m (learnP (f m) b)) s1 (hf.upd m b hmN) (Nat.le_trans h6 (by rw [← e]; exact hm))
    refine ⟨x, E', f', ?_, r2, s2.trans r3, r4, fun B hB => ?_⟩
    · rw [treeR, cbit_e, hb]; exact r1
    · have hs := sync_bit hE (hf m hmN) hb1 (hB.of r3) pt
      rw [treeR, cbit_d]
      generalize (Dec.at_ B E pt).bit (f m) = r at *
      subst hs
      exact r5 B hB
theorem sy_tree {Y : Lay} {pt i n h h' : Nat} (hu : Y.used i) (hi : 3 ≤ i) (hn : 2 ^ n ≤ tsz i) (hh : h < 2 ^ n) : Sy Y pt (treeP i n h) (treeP i n h') h := by
  intro E P hE hP
  have ht := (ok_tree hi).1 (hP i hu)
  obtain ⟨x, E', f', r1, r2, r3, r4, r5⟩ := treeR_sync (pt := pt) (v := h) (v' := h') hn n 1 E (P i) hE ht (by rw [Nat.pow_succ]; omega)
  have e : treeP i n h (.enc E, P) = (x - 2 ^ n, .enc E', P.row i f') := by
    show ((treeR h n 1 (.enc E) (P i)).1 - 2 ^ n, (treeR h n 1 (.enc E) (P i)).2.1, P.row i (treeR h n 1 (.enc E) (P i)).2.2) = _
    rw [r1]
  have hv : (treeP i n h (.enc E, P)).1 = h := treeP_val rfl hh
  rw [e] at hv
  refine ⟨E', P.row i f', by rw [e]; exact congrArg (fun y => (y, Cdr.enc E', P.row i f')) hv, r2, r3, hP.row ((ok_tree hi).2 r4), fun B hB => ?_⟩
  show ((treeR h' n 1 (.dec (Dec.at_ B E pt)) (P i)).1 - 2 ^ n, (treeR h' n 1 (.dec (Dec.at_ B E pt)) (P i)).2.1, P.row i (treeR h' n 1 (.dec (Dec.at_ B E pt)) (P i)).2.2) = _
  rw [r5 B hB]
  exact congrArg (fun y => (y, Cdr.dec (Dec.at_ B E' pt), P.row i f')) hv
theorem backR_sync {N T pt v v' : Nat} (hN : 2 ^ T ≤ N) : ∀ (j i m acc : Nat) (E : Cas.Enc) (f : Nat → Nat), Enc.Good E → TreeOk f N → i + j = T → m < 2 ^ (i + 1) →
    ∃ x E' f', backR v j i m acc (.enc E) f = (x, .enc E', f') ∧ Enc.Good E' ∧ Enc.Within E E' ∧ TreeOk f' N ∧ ∀ B, Lies B E' → backR v' j i m acc (.dec (Dec.at_ B E pt)) f = (x, .dec (Dec.at_ B E' pt), f')
  | 0, i, m, acc, E, f, hE, hf, _, _ => ⟨acc, E, f, rfl, hE, Enc.Within.refl _, hf, fun _ _ => rfl⟩
  | j + 1, i, m, acc, E, f, hE, hf, hi, hm => by
    have hmN : m < N := Nat.lt_of_lt_of_le (back_lt (by omega) hm) hN
    obtain ⟨b, hb⟩ : ∃ b, v / 2 ^ i % 2 = b := ⟨_, rfl⟩
    have hb1 : b ≤ 1 := by omega
    obtain ⟨s1, s2⟩ := bit_step hE (hf m hmN) b
    obtain ⟨x, E', f', r1, r2, r3, r4, r5⟩ := backR_sync hN j (i + 1) (2 * m + b) (acc + b * 2 ^ i) (E.bit (f m) b) (updF f m (learnP (f m) b)) s1 (hf.upd m b hmN) (by omega) (back_next hm hb1)
    refine ⟨x, E', f', ?_, r2, s2.trans r3, r4, fun B hB => ?_⟩
    · rw [backR, cbit_e, hb]; exact r1
    · have hs := sync_bit hE (hf m hmN) hb1 (hB.of r3) pt
      rw [backR, cbit_d]
      generalize (Dec.at_ B E pt).bit (f m) = r at *
      subst hs
      exact r5 B hB

theorem sy_back {Y : Lay} {pt i n h h' : Nat} (hu : Y.used i) (hi : 3 ≤ i) (hn : 2 ^ n ≤ tsz i) (hh : h < 2 ^ n) : Sy Y pt (backP i n h) (backP i n h') h := by
  intro E P hE hP
  have ht := (ok_tree hi).1 (hP i hu)
  obtain ⟨x, E', f', r1, r2, r3, r4, r5⟩ := backR_sync (pt := pt) (v := h) (v' := h') hn n 0 1 0 E (P i) hE ht (by omega) (by decide)
  have e : backP i n h (.enc E, P) = (x, .enc E', P.row i f') := by
    show ((backR h n 0 1 0 (.enc E) (P i)).1, (backR h n 0 1 0 (.enc E) (P i)).2.1, P.row i (backR h n 0 1 0 (.enc E) (P i)).2.2) = _
    rw [r1]
  have hv : (backP i n h (.enc E, P)).1 = h := back_enc hh E _
  rw [e] at hv
  refine ⟨E', P.row i f', by rw [e]; exact congrArg (fun y => (y, Cdr.enc E', P.row i f')) hv, r2, r3, hP.row ((ok_tree hi).2 r4), fun B hB => ?_⟩
  show ((backR h' n 0 1 0 (.dec (Dec.at_ B E pt)) (P i)).1, (backR h' n 0 1 0 (.dec (Dec.at_ B E pt)) (P i)).2.1, P.row i (backR h' n 0 1 0 (.dec (Dec.at_ B E pt)) (P i)).2.2) = _
  rw [r5 B hB]
  exact congrArg (fun y => (y, Cdr.dec (Dec.at_ B E' pt), P.row i f')) hv
theorem likeR_sync {N pt v v' : Nat} (hN : 768 ≤ N) : ∀ (j pl hf ot : Nat) (E : Cas.Enc) (f : Nat → Nat), Enc.Good E → TreeOk f N → j ≤ 8 → pl < 2 ^ (8 - j + 1) → (hf = 0 ∨ hf = 256) →
    ∃ x E' f', likeR v j pl hf ot (.enc E) f = (x, .enc E', f') ∧ Enc.Good E' ∧ Enc.Within E E' ∧ TreeOk f' N ∧ ∀ B, Lies B E' → likeR v' j pl hf ot (.dec (Dec.at_ B E pt)) f = (x, .dec (Dec.at_ B E' pt), f')
  | 0, pl, hf, ot, E, f, hE, ht, _, _, _ => ⟨pl, E, f, rfl, hE, Enc.Within.refl _, ht, fun _ _ => rfl⟩
  | j + 1, pl, hf, ot, E, f, hE, ht, hj, hp, hh => by
    have hpl2 : pl < 256 := Nat.lt_of_lt_of_le hp (show 2 ^ (8 - (j + 1) + 1) ≤ 2 ^ 8 from Nat.pow_le_pow_right (by decide) (by omega))
    have hi := likeI_lt (ot := ot) hpl2 hh
    have hiN : likeI pl hf ot < N := by omega
    obtain ⟨ix, hix⟩ : ∃ ix, likeI pl hf ot = ix := ⟨_, rfl⟩
    rw [hix] at hiN
    obtain ⟨b, hb⟩ : ∃ b, v / 2 ^ j % 2 = b := ⟨_, rfl⟩
    have hb1 : b ≤ 1 := by omega
    obtain ⟨s1, s2⟩ := bit_step hE (ht ix hiN) b
    have hpn : 2 * pl + b < 2 ^ (8 - j + 1) := by
      have e : 2 ^ (8 - j + 1) = 2 * 2 ^ (8 - (j + 1) + 1) := by rw [show 8 - j + 1 = (8 - (j + 1) + 1) + 1 from by omega, Nat.pow_succ]; omega
      omega
    obtain ⟨x, E', f', r1, r2, r3, r4, r5⟩ := likeR_sync hN j (2 * pl + b) (likeH hf ot b) (ot * 2) (E.bit (f ix) b) (updF f ix (learnP (f ix) b)) s1 (ht.upd ix b hiN) (by omega) hpn (likeH_or hh)
    refine ⟨x, E', f', ?_, r2, s2.trans r3, r4, fun B hB => ?_⟩
    · rw [likeR, hix, cbit_e, hb]; exact r1
    · have hs := sync_bit hE (ht ix hiN) hb1 (hB.of r3) pt
      rw [likeR, hix, cbit_d]
      generalize (Dec.at_ B E pt).bit (f ix) = r at *
      subst hs
      exact r5 B hB

theorem likeP_eq (i h ot : Nat) (s : CSt) : likeP i h ot s = ((likeR h 8 1 256 ot s.1 (s.2 i)).1 % 256, (likeR h 8 1 256 ot s.1 (s.2 i)).2.1, s.2.row i (likeR h 8 1 256 ot s.1 (s.2 i)).2.2) := rfl
theorem sy_like {Y : Lay} {pt i h h' ot : Nat} (hu : Y.used i) (hi : 3 ≤ i) (hn : 768 ≤ tsz i) (hh : h < 256) : Sy Y pt (likeP i h ot) (likeP i h' ot) h := by
  intro E P hE hP
  have ht := (ok_tree hi).1 (hP i hu)
  obtain ⟨x, E', f', r1, r2, r3, r4, r5⟩ := likeR_sync (pt := pt) (v := h) (v' := h') hn 8 1 256 ot E (P i) hE ht (by decide) (by decide) (.inr rfl)
  have e : likeP i h ot (.enc E, P) = (x % 256, .enc E', P.row i f') := by
    rw [likeP_eq]
    dsimp only
    rw [r1]
  have hv : x % 256 = h := by
    have h1 := like_enc (other := ot) hh E (P i)
    unfold Cdr.like at h1
    rw [r1] at h1
    exact h1
  refine ⟨E', P.row i f', by rw [e]; exact congrArg (fun y => (y, Cdr.enc E', P.row i f')) hv, r2, r3, hP.row ((ok_tree hi).2 r4), fun B hB => ?_⟩
  rw [likeP_eq]
  dsimp only
  rw [r5 B hB]
  exact congrArg (fun y => (y, Cdr.dec (Dec.at_ B E' pt), P.row i f')) hv
theorem chalf_e (E : Cas.Enc) (h : Nat) : (Cdr.enc E).half h = (h, .enc (E.half h)) := rfl
theorem chalf_d (D : Dec) (h : Nat) : (Cdr.dec D).half h = (D.half.1, .dec D.half.2) := rfl
theorem dir_sync {pt v v' : Nat} : ∀ (n acc : Nat) (E : Cas.Enc), Enc.Good E →
    ∃ x E', Cdr.dir v n acc (.enc E) = (x, .enc E') ∧ Enc.Good E' ∧ Enc.Within E E' ∧ ∀ B, Lies B E' → Cdr.dir v' n acc (.dec (Dec.at_ B E pt)) = (x, .dec (Dec.at_ B E' pt))
  | 0, acc, E, hE => ⟨acc, E, rfl, hE, Enc.Within.refl _, fun _ _ => rfl⟩
  | n + 1, acc, E, hE => by
    obtain ⟨b, hb⟩ : ∃ b, v / 2 ^ n % 2 = b := ⟨_, rfl⟩
    have hb1 : b ≤ 1 := by omega
    obtain ⟨s1, s2⟩ := half_step hE b
    obtain ⟨x, E', r1, r2, r3, r5⟩ := dir_sync n (2 * acc + b) (E.half b) s1
    refine ⟨x, E', ?_, r2, s2.trans r3, fun B hB => ?_⟩
    · rw [Cdr.dir, chalf_e, hb]; exact r1
    · have hs := sync_half hE hb1 (hB.of r3) pt
      rw [Cdr.dir, chalf_d]
      generalize (Dec.at_ B E pt).half = r at *
      subst hs
      exact r5 B hB

theorem dirP_eq (n h : Nat) (s : CSt) : dirP n h s = ((Cdr.dir h n 0 s.1).1, (Cdr.dir h n 0 s.1).2, s.2) := rfl
theorem sy_dir {Y : Lay} {pt n h h' : Nat} (hh : h < 2 ^ n) : Sy Y pt (dirP n h) (dirP n h') h := by
  intro E P hE hP
  obtain ⟨x, E', r1, r2, r3, r5⟩ := dir_sync (pt := pt) (v := h) (v' := h') n 0 E hE
  have hv : x = h := by
    have h1 := dir_enc1 h n 0 E
    rw [r1, Nat.mod_eq_of_lt hh] at h1
    dsimp only at h1
    omega
  refine ⟨E', P, by rw [dirP_eq]; dsimp only; rw [r1]; exact congrArg (fun y => (y, Cdr.enc E', P)) hv, r2, r3, hP, fun B hB => ?_⟩
  rw [dirP_eq]
  dsimp only
  rw [r5 B hB]
  exact congrArg (fun y => (y, Cdr.dec (Dec.at_ B E' pt), P)) hv
end Go.Proofs.YtalopgbkjgjppaaGreatDoor

/- The plain law of coding: lengths, distances. -/
namespace Go.Proofs.YtalopgbkjgjppaaGreatDoor
open Go.RowKit Go.Cas Go.Cas.Enc

theorem Sy.iff {α : Type} {Y : Lay} {pt : Nat} {f f' g g' : CSt → α × CSt} {v : α} (h : Sy Y pt f g v) (hf : ∀ s, f' s = f s) (hg : ∀ s, g' s = g s) : Sy Y pt f' g' v := by
  rw [show f' = f from funext hf, show g' = g from funext hg]; exact h

theorem sy_length {Y : Lay} {pt t pl n n' : Nat} (ht : t < 2) (hpl : pl < 16) (hn : n < 272) : Sy Y pt (lengthP t pl n) (lengthP t pl n') (n + 2) := by
  have hu1 : Y.used (1 + t) := used_small (by omega) (by omega)
  refine ((sy_bit (h' := min (farN n') 1) hu1 (.inr ⟨by omega, by decide⟩) (show min (farN n) 1 ≤ 1 by omega)).bind
    (f2 := fun a s => if a = 0 then ((2 + (treeP (22 + t * 32 + pl) 3 n s).1, (treeP (22 + t * 32 + pl) 3 n s).2)) else
      if (bitP (1 + t) 1 (farN n - 1) s).1 = 0 then (10 + (treeP (22 + t * 32 + 16 + pl) 3 (n - 8) (bitP (1 + t) 1 (farN n - 1) s).2).1, (treeP (22 + t * 32 + 16 + pl) 3 (n - 8) (bitP (1 + t) 1 (farN n - 1) s).2).2)
      else (18 + (treeP (86 + t) 8 (n - 16) (bitP (1 + t) 1 (farN n - 1) s).2).1, (treeP (86 + t) 8 (n - 16) (bitP (1 + t) 1 (farN n - 1) s).2).2))
    (g2 := fun a s => if a = 0 then ((2 + (treeP (22 + t * 32 + pl) 3 n' s).1, (treeP (22 + t * 32 + pl) 3 n' s).2)) else
      if (bitP (1 + t) 1 (farN n' - 1) s).1 = 0 then (10 + (treeP (22 + t * 32 + 16 + pl) 3 (n' - 8) (bitP (1 + t) 1 (farN n' - 1) s).2).1, (treeP (22 + t * 32 + 16 + pl) 3 (n' - 8) (bitP (1 + t) 1 (farN n' - 1) s).2).2)
      else (18 + (treeP (86 + t) 8 (n' - 16) (bitP (1 + t) 1 (farN n' - 1) s).2).1, (treeP (86 + t) 8 (n' - 16) (bitP (1 + t) 1 (farN n' - 1) s).2).2))
    ?_).iff (fun s => rfl) (fun s => rfl)
  by_cases h8 : n < 8
  · have e : min (farN n) 1 = 0 := by unfold farN; rw [if_neg (by omega), if_neg (by omega)]; rfl
    rw [e]
    rw [show n + 2 = 2 + n from by omega]
    exact Sy.iff ((sy_tree (h := n) (h' := n') (used_small (by omega) (by omega)) (by omega) (Nat.le_of_eq (tree_near t pl ht (by omega)).symm) (by omega)).map (fun y => 2 + y)) (fun s => if_pos rfl) (fun s => if_pos rfl)
  · have e : min (farN n) 1 = 1 := (by unfold farN; by_cases h1 : 16 ≤ n; rw [if_pos h1]; rfl; rw [if_neg h1, if_pos (by omega)]; rfl)
    rw [e]
    refine Sy.iff ((sy_bit (h := farN n - 1) (h' := farN n' - 1) hu1 (.inr ⟨by omega, by decide⟩) (by unfold farN; split; omega; split; omega; omega)).bind
      (f2 := fun a s => if a = 0 then (10 + (treeP (22 + t * 32 + 16 + pl) 3 (n - 8) s).1, (treeP (22 + t * 32 + 16 + pl) 3 (n - 8) s).2) else (18 + (treeP (86 + t) 8 (n - 16) s).1, (treeP (86 + t) 8 (n - 16) s).2))
      (g2 := fun a s => if a = 0 then (10 + (treeP (22 + t * 32 + 16 + pl) 3 (n' - 8) s).1, (treeP (22 + t * 32 + 16 + pl) 3 (n' - 8) s).2) else (18 + (treeP (86 + t) 8 (n' - 16) s).1, (treeP (86 + t) 8 (n' - 16) s).2)) ?_) (fun s => if_neg (by decide)) (fun s => if_neg (by decide))
    by_cases h16 : n < 16
    · have e : farN n - 1 = 0 := by unfold farN; rw [if_neg (by omega), if_pos (by omega)]
      rw [e, show n + 2 = 10 + (n - 8) from by omega]
      exact Sy.iff ((sy_tree (h := n - 8) (h' := n' - 8) (used_small (by omega) (by omega)) (by omega) (Nat.le_of_eq (by have := tree_near t (16 + pl) ht (by omega); rw [show 22 + t * 32 + (16 + pl) = 22 + t * 32 + 16 + pl from by omega] at this; exact this.symm)) (by omega)).map (fun y => 10 + y)) (fun s => if_pos rfl) (fun s => if_pos rfl)
    · have e : farN n - 1 = 1 := by unfold farN; rw [if_pos (by omega)]
      rw [e, show n + 2 = 18 + (n - 16) from by omega]
      exact Sy.iff ((sy_tree (h := n - 16) (h' := n' - 16) (used_small (by omega) (by omega)) (by omega) (Nat.le_of_eq (tree_far t ht).symm) (by omega)).map (fun y => 18 + y)) (fun s => if_neg (by decide)) (fun s => if_neg (by decide))
theorem sy_dist {Y : Lay} {pt cl d d' : Nat} (hcl : cl < 4) (hd : d < 4294967296) : Sy Y pt (distP cl d) (distP cl d') d := by
  obtain ⟨hs, hb1, hb2, hb3, hb4⟩ := slot_base hd
  refine Sy.iff ((sy_tree (h := slotN d) (h' := slotN d') (used_small (i := 3 + cl) (by omega) (by omega)) (by omega) (Nat.le_of_eq (tsz_slot cl hcl).symm) (by omega)).bind
    (f2 := fun a s => if a < 4 then ((baseN a).1, s) else if a < 14 then ((baseN a).1 + (backP (7 + a) (baseN a).2 (d - (baseN a).1) s).1, (backP (7 + a) (baseN a).2 (d - (baseN a).1) s).2)
      else ((baseN a).1 + (dirP ((baseN a).2 - 4) ((d - (baseN a).1) / 16) s).1 * 16 + (backP 21 4 ((d - (baseN a).1) % 16) (dirP ((baseN a).2 - 4) ((d - (baseN a).1) / 16) s).2).1, (backP 21 4 ((d - (baseN a).1) % 16) (dirP ((baseN a).2 - 4) ((d - (baseN a).1) / 16) s).2).2))
    (g2 := fun a s => if a < 4 then ((baseN a).1, s) else if a < 14 then ((baseN a).1 + (backP (7 + a) (baseN a).2 (d' - (baseN a).1) s).1, (backP (7 + a) (baseN a).2 (d' - (baseN a).1) s).2)
      else ((baseN a).1 + (dirP ((baseN a).2 - 4) ((d' - (baseN a).1) / 16) s).1 * 16 + (backP 21 4 ((d' - (baseN a).1) % 16) (dirP ((baseN a).2 - 4) ((d' - (baseN a).1) / 16) s).2).1, (backP 21 4 ((d' - (baseN a).1) % 16) (dirP ((baseN a).2 - 4) ((d' - (baseN a).1) / 16) s).2).2))
    ?_) (fun s => rfl) (fun s => rfl)
  obtain ⟨a, ha⟩ : ∃ a, slotN d = a := ⟨_, rfl⟩
  rw [ha] at hs hb1 hb2 hb3 hb4 ⊢
  have hp : 0 < 2 ^ (baseN a).2 := Nat.pow_pos (by decide)
  by_cases h4 : a < 4
  · have e0 : (baseN a).2 = 0 := by unfold baseN; rw [if_neg (by omega), if_pos h4]
    rw [e0] at hb2
    have e : d = (baseN a).1 := by omega
    have := Sy.pure (Y := Y) (pt := pt) (baseN a).1
    rw [← e] at this
    refine Sy.iff this (fun s => ?_) (fun s => ?_) <;> (show (if a < 4 then _ else _) = _; rw [if_pos h4, ← e])
  · by_cases h14 : a < 14
    · have e : d = (baseN a).1 + (d - (baseN a).1) := by omega
      refine Sy.iff (v := d) (by
        have := (sy_back (Y := Y) (pt := pt) (h := d - (baseN a).1) (h' := d' - (baseN a).1) (used_small (i := 7 + a) (by omega) (by omega)) (by omega) (Nat.le_of_eq (tsz_special a (by omega) h14).symm) (by omega)).map (fun y => (baseN a).1 + y)
        rw [← e] at this
        exact this) (fun s => ?_) (fun s => ?_) <;> (show (if a < 4 then _ else _) = _; rw [if_neg h4, if_pos h14])
    · have hb6 := hb4 (by omega)
      obtain ⟨bs, hbs⟩ : ∃ bs, (baseN a).1 = bs := ⟨_, rfl⟩
      obtain ⟨bn, hbn⟩ : ∃ bn, (baseN a).2 = bn := ⟨_, rfl⟩
      simp only [hbs, hbn] at *
      have e4 : 2 ^ bn = 2 ^ (bn - 4) * 16 := by rw [show bn = (bn - 4) + 4 from by omega, Nat.pow_add]; simp
      have hd16 : (d - bs) / 16 < 2 ^ (bn - 4) := (Nat.div_lt_iff_lt_mul (by decide)).2 (by omega)
      have hdv : bs + (d - bs) / 16 * 16 + (d - bs) % 16 = d := by omega
      have key := (sy_dir (Y := Y) (pt := pt) (h' := (d' - bs) / 16) hd16).bind (f2 := fun v s => (bs + v * 16 + (backP 21 4 ((d - bs) % 16) s).1, (backP 21 4 ((d - bs) % 16) s).2)) (g2 := fun v s => (bs + v * 16 + (backP 21 4 ((d' - bs) % 16) s).1, (backP 21 4 ((d' - bs) % 16) s).2))
        ((sy_back (Y := Y) (pt := pt) (h := (d - bs) % 16) (h' := (d' - bs) % 16) (used_small (i := 21) (by omega) (by omega)) (by omega) (by decide) (by omega)).map (fun y => bs + (d - bs) / 16 * 16 + y))
      rw [hdv] at key
      exact Sy.iff key (fun s => by rw [if_neg h4, if_neg h14]) (fun s => by rw [if_neg h4, if_neg h14])
end Go.Proofs.YtalopgbkjgjppaaGreatDoor

/- The plain law of coding: packets. -/
namespace Go.Proofs.YtalopgbkjgjppaaGreatDoor
open Go.RowKit Go.Cas Go.Cas.Enc

theorem sy_which {Y : Lay} {pt st i i' : Nat} (hst : st < 12) (h1 : 1 ≤ i) (h3 : i ≤ 3) : Sy Y pt (whichP st i) (whichP st i') i := by
  have hu : Y.used 0 := used_small (by decide) (by decide)
  have hb := fun (k h h' : Nat) (hk : k < 2) (hh : h ≤ 1) => sy_bit (Y := Y) (pt := pt) (i := 0) (o := 418 + k * 12 + st) (h := h) (h' := h') hu (.inl ⟨rfl, by omega, by omega⟩) hh
  refine Sy.iff ((hb 0 (min (i - 1 - 0) 1) (min (i' - 1 - 0) 1) (by decide) (by omega)).bind
    (f2 := fun a s => if a = 0 then (1, s) else if (bitP 0 (418 + 1 * 12 + st) (min (i - 1 - 1) 1) s).1 = 0 then (2, (bitP 0 (418 + 1 * 12 + st) (min (i - 1 - 1) 1) s).2) else (3, (bitP 0 (418 + 1 * 12 + st) (min (i - 1 - 1) 1) s).2))
    (g2 := fun a s => if a = 0 then (1, s) else if (bitP 0 (418 + 1 * 12 + st) (min (i' - 1 - 1) 1) s).1 = 0 then (2, (bitP 0 (418 + 1 * 12 + st) (min (i' - 1 - 1) 1) s).2) else (3, (bitP 0 (418 + 1 * 12 + st) (min (i' - 1 - 1) 1) s).2))
    ?_) (fun s => rfl) (fun s => rfl)
  by_cases e1 : i = 1
  · subst e1
    exact Sy.iff (Sy.pure 1) (fun s => if_pos rfl) (fun s => if_pos rfl)
  · have e : min (i - 1 - 0) 1 = 1 := by omega
    rw [e]
    refine Sy.iff ((hb 1 (min (i - 1 - 1) 1) (min (i' - 1 - 1) 1) (by decide) (by omega)).bind (f2 := fun a s => if a = 0 then (2, s) else (3, s)) (g2 := fun a s => if a = 0 then (2, s) else (3, s)) ?_) (fun s => if_neg (by decide)) (fun s => if_neg (by decide))
    by_cases e2 : i = 2
    · subst e2
      exact Sy.iff (Sy.pure 2) (fun s => if_pos rfl) (fun s => if_pos rfl)
    · obtain rfl : i = 3 := by omega
      exact Sy.iff (Sy.pure 3) (fun s => if_neg (by decide)) (fun s => if_neg (by decide))

theorem sy_far {Y : Lay} {pt pl d d' n n' : Nat} (hpl : pl < 16) (hd : d < 4294967296) (hn : n < 272) : Sy Y pt (farP pl d n) (farP pl d' n') (d, n + 2) := by
  refine Sy.iff ((sy_length (t := 0) (n' := n') (by decide) hpl hn).bind (f2 := fun l s => (((distP (classN l) d s).1, l), (distP (classN l) d s).2)) (g2 := fun l s => (((distP (classN l) d' s).1, l), (distP (classN l) d' s).2)) ?_) (fun s => rfl) (fun s => rfl)
  exact (sy_dist (classN_lt _) hd).map (fun y => (y, n + 2))
theorem tsz_lit (a : Nat) : tsz (88 + a) = 1024 := by unfold tsz; rw [if_neg (by omega), if_neg (by omega), if_neg (by omega), if_neg (by omega), if_neg (by omega)]
theorem sy_byte {Y : Lay} {S : MSt} {pt b b' : Nat} (hp : Y.lc + Y.lp ≤ 4) (hb : b < 256) : Sy Y pt (byteP Y S b) (byteP Y S b') b := by
  have hu := used_lit (litN_lt Y S hp)
  by_cases h7 : S.st < 7
  · exact Sy.iff (sy_tree (h' := b') hu (by omega) (by rw [tsz_lit]; decide) hb) (fun s => if_pos h7) (fun s => if_pos h7)
  · exact Sy.iff (sy_like (h' := b') hu (by omega) (by rw [tsz_lit]; decide) hb) (fun s => if_neg h7) (fun s => if_neg h7)

theorem sy_again {Y : Lay} {pt st pl kd ds n kd' ds' n' : Nat} (hst : st < 12) (hpl : pl < 16) (hk : kd = 3 ∧ ds ≤ 3 ∧ n < 272 ∨ kd = 4 ∧ ds = 0) :
    Sy Y pt (againP st pl kd ds n) (againP st pl kd' ds' n') (if kd = 3 then (3, ds, n + 2) else (4, 0, 0)) := by
  have hu : Y.used 0 := used_small (by decide) (by decide)
  refine Sy.iff ((sy_bit (Y := Y) (pt := pt) (i := 0) (o := 214 + st) (h := if 0 < ds then 1 else 0) (h' := if 0 < ds' then 1 else 0) hu (.inl ⟨rfl, by omega, by omega⟩) (by split <;> omega)).bind
    (f2 := fun a s => if a = 1 then ((3, (whichP st ds s).1, (lengthP 1 pl n (whichP st ds s).2).1), (lengthP 1 pl n (whichP st ds s).2).2)
      else if (bitP 0 (226 + 16 * st + pl) (if kd = 3 then 1 else 0) s).1 = 0 then ((4, 0, 0), (bitP 0 (226 + 16 * st + pl) (if kd = 3 then 1 else 0) s).2)
      else ((3, 0, (lengthP 1 pl n (bitP 0 (226 + 16 * st + pl) (if kd = 3 then 1 else 0) s).2).1), (lengthP 1 pl n (bitP 0 (226 + 16 * st + pl) (if kd = 3 then 1 else 0) s).2).2))
    (g2 := fun a s => if a = 1 then ((3, (whichP st ds' s).1, (lengthP 1 pl n' (whichP st ds' s).2).1), (lengthP 1 pl n' (whichP st ds' s).2).2)
      else if (bitP 0 (226 + 16 * st + pl) (if kd' = 3 then 1 else 0) s).1 = 0 then ((4, 0, 0), (bitP 0 (226 + 16 * st + pl) (if kd' = 3 then 1 else 0) s).2)
      else ((3, 0, (lengthP 1 pl n' (bitP 0 (226 + 16 * st + pl) (if kd' = 3 then 1 else 0) s).2).1), (lengthP 1 pl n' (bitP 0 (226 + 16 * st + pl) (if kd' = 3 then 1 else 0) s).2).2))
    ?_) (fun s => rfl) (fun s => rfl)
  by_cases h0 : 0 < ds
  · rw [if_pos h0]
    rcases hk with ⟨rfl, h3, hn⟩ | ⟨_, h4⟩
    · rw [if_pos rfl]
      refine Sy.iff ((sy_which (i' := ds') hst h0 h3).bind (f2 := fun v s => ((3, v, (lengthP 1 pl n s).1), (lengthP 1 pl n s).2)) (g2 := fun v s => ((3, v, (lengthP 1 pl n' s).1), (lengthP 1 pl n' s).2)) ?_) (fun s => if_pos rfl) (fun s => if_pos rfl)
      exact (sy_length (t := 1) (by decide) hpl hn).map (fun y => (3, ds, y))
    · omega
  · rw [if_neg h0]
    refine Sy.iff ((sy_bit (Y := Y) (pt := pt) (i := 0) (o := 226 + 16 * st + pl) (h := if kd = 3 then 1 else 0) (h' := if kd' = 3 then 1 else 0) hu (.inl ⟨rfl, by omega, by omega⟩) (by split <;> omega)).bind
      (f2 := fun a s => if a = 0 then ((4, 0, 0), s) else ((3, 0, (lengthP 1 pl n s).1), (lengthP 1 pl n s).2)) (g2 := fun a s => if a = 0 then ((4, 0, 0), s) else ((3, 0, (lengthP 1 pl n' s).1), (lengthP 1 pl n' s).2)) ?_) (fun s => if_neg (by decide)) (fun s => if_neg (by decide))
    rcases hk with ⟨rfl, h3, hn⟩ | ⟨rfl, h4⟩
    · rw [if_pos rfl, if_pos rfl]
      obtain rfl : ds = 0 := by omega
      exact Sy.iff ((sy_length (t := 1) (n' := n') (by decide) hpl hn).map (fun y => (3, 0, y))) (fun s => if_neg (by decide)) (fun s => if_neg (by decide))
    · rw [if_neg (by decide), if_neg (by decide)]
      exact Sy.iff (Sy.pure (4, 0, 0)) (fun s => if_pos rfl) (fun s => if_pos rfl)
/-- What is told of a packet. -/
def toldV (kd ds n d y : Nat) : Nat × Nat × Nat × Nat × Bool :=
  if kd = 1 then (1, 0, 0, y, false) else if kd = 2 then (if d = 4294967295 then (0, 0, 0, 0, true) else (2, d + 1, n + 2, 0, false)) else if kd = 3 then (3, ds, n + 2, 0, false) else (4, 0, 0, 0, false)

theorem sy_code {Y : Lay} {S : MSt} {pt kd ds n d y kd' ds' n' d' y' : Nat} (hp : Y.lc + Y.lp ≤ 4) (hpb : Y.pb ≤ 4) (hst : S.st < 12)
    (hk : kd = 1 ∧ y < 256 ∨ kd = 2 ∧ d < 4294967296 ∧ n < 272 ∨ kd = 3 ∧ ds ≤ 3 ∧ n < 272 ∨ kd = 4 ∧ ds = 0) :
    Sy Y pt (codeP Y S kd ds n d y) (codeP Y S kd' ds' n' d' y') (toldV kd ds n d y) := by
  have hu : Y.used 0 := used_small (by decide) (by decide)
  have hpl := placeN_lt Y S hpb
  let F (kd ds n d y : Nat) : Nat → CSt → (Nat × Nat × Nat × Nat × Bool) × CSt := fun a s =>
    if a = 0 then ((1, 0, 0, (byteP Y S y s).1, false), (byteP Y S y s).2)
    else if (bitP 0 (202 + S.st) (if kd = 2 then 0 else 1) s).1 = 1 then
      (((againP S.st (placeN Y S) kd ds n (bitP 0 (202 + S.st) (if kd = 2 then 0 else 1) s).2).1.1, (againP S.st (placeN Y S) kd ds n (bitP 0 (202 + S.st) (if kd = 2 then 0 else 1) s).2).1.2.1, (againP S.st (placeN Y S) kd ds n (bitP 0 (202 + S.st) (if kd = 2 then 0 else 1) s).2).1.2.2, 0, false), (againP S.st (placeN Y S) kd ds n (bitP 0 (202 + S.st) (if kd = 2 then 0 else 1) s).2).2)
    else if (farP (placeN Y S) d n (bitP 0 (202 + S.st) (if kd = 2 then 0 else 1) s).2).1.1 = 4294967295 then ((0, 0, 0, 0, true), (farP (placeN Y S) d n (bitP 0 (202 + S.st) (if kd = 2 then 0 else 1) s).2).2)
    else ((2, (farP (placeN Y S) d n (bitP 0 (202 + S.st) (if kd = 2 then 0 else 1) s).2).1.1 + 1, (farP (placeN Y S) d n (bitP 0 (202 + S.st) (if kd = 2 then 0 else 1) s).2).1.2, 0, false), (farP (placeN Y S) d n (bitP 0 (202 + S.st) (if kd = 2 then 0 else 1) s).2).2)
  refine Sy.iff ((sy_bit (Y := Y) (pt := pt) (i := 0) (o := 10 + 16 * S.st + placeN Y S) (h := if kd = 1 then 0 else 1) (h' := if kd' = 1 then 0 else 1) hu (.inl ⟨rfl, by omega, by omega⟩) (by split <;> omega)).bind
    (f2 := F kd ds n d y) (g2 := F kd' ds' n' d' y') ?_) (fun s => rfl) (fun s => rfl)
  by_cases h1 : kd = 1
  · rw [if_pos h1]
    have hy : y < 256 := by omega
    have e : toldV kd ds n d y = (1, 0, 0, y, false) := by unfold toldV; rw [if_pos h1]
    rw [e]
    exact Sy.iff ((sy_byte (b' := y') hp hy).map (fun v => (1, 0, 0, v, false))) (fun s => if_pos rfl) (fun s => if_pos rfl)
  · rw [if_neg h1]
    let G (kd ds n d : Nat) : Nat → CSt → (Nat × Nat × Nat × Nat × Bool) × CSt := fun a s =>
      if a = 1 then (((againP S.st (placeN Y S) kd ds n s).1.1, (againP S.st (placeN Y S) kd ds n s).1.2.1, (againP S.st (placeN Y S) kd ds n s).1.2.2, 0, false), (againP S.st (placeN Y S) kd ds n s).2)
      else if (farP (placeN Y S) d n s).1.1 = 4294967295 then ((0, 0, 0, 0, true), (farP (placeN Y S) d n s).2) else ((2, (farP (placeN Y S) d n s).1.1 + 1, (farP (placeN Y S) d n s).1.2, 0, false), (farP (placeN Y S) d n s).2)
    refine Sy.iff ((sy_bit (Y := Y) (pt := pt) (i := 0) (o := 202 + S.st) (h := if kd = 2 then 0 else 1) (h' := if kd' = 2 then 0 else 1) hu (.inl ⟨rfl, by omega, by omega⟩) (by split <;> omega)).bind
      (f2 := G kd ds n d) (g2 := G kd' ds' n' d') ?_) (fun s => if_neg (by decide)) (fun s => if_neg (by decide))
    by_cases h2 : kd = 2
    · rw [if_pos h2]
      have hd : d < 4294967296 ∧ n < 272 := by omega
      have e : toldV kd ds n d y = (if (d, n + 2).1 = 4294967295 then (0, 0, 0, 0, true) else (2, (d, n + 2).1 + 1, (d, n + 2).2, 0, false)) := by unfold toldV; rw [if_neg h1, if_pos h2]
      rw [e]
      exact Sy.iff ((sy_far (d' := d') (n' := n') hpl hd.1 hd.2).map (fun v => if v.1 = 4294967295 then (0, 0, 0, 0, true) else (2, v.1 + 1, v.2, 0, false)))
        (fun s => by show (if (0 : Nat) = 1 then _ else _) = _; rw [if_neg (by decide)]; split <;> rfl) (fun s => by show (if (0 : Nat) = 1 then _ else _) = _; rw [if_neg (by decide)]; split <;> rfl)
    · rw [if_neg h2]
      have e : toldV kd ds n d y = ((if kd = 3 then (3, ds, n + 2) else (4, 0, 0) : Nat × Nat × Nat).1, (if kd = 3 then (3, ds, n + 2) else (4, 0, 0) : Nat × Nat × Nat).2.1, (if kd = 3 then (3, ds, n + 2) else (4, 0, 0) : Nat × Nat × Nat).2.2, 0, false) := by
        unfold toldV; rw [if_neg h1, if_neg h2]; split <;> rfl
      rw [e]
      exact Sy.iff ((sy_again (kd' := kd') (ds' := ds') (n' := n') hst hpl (by omega)).map (fun v => (v.1, v.2.1, v.2.2, 0, false))) (fun s => if_pos rfl) (fun s => if_pos rfl)
end Go.Proofs.YtalopgbkjgjppaaGreatDoor

/- The plain law of coding: one packet after another, and the end. -/
namespace Go.Proofs.YtalopgbkjgjppaaGreatDoor
open Go.RowKit Go.Cas Go.Cas.Enc

theorem codeP_congr {Y Z : Lay} {S : MSt} (h1 : Z.lc = Y.lc) (h2 : Z.lp = Y.lp) (h3 : Z.pb = Y.pb) (kd ds n d y : Nat) (s : CSt) : codeP Z S kd ds n d y s = codeP Y S kd ds n d y s := by
  have e1 : placeN Z S = placeN Y S := by unfold placeN; rw [h3]
  have e2 : ∀ b t, byteP Z S b t = byteP Y S b t := fun b t => by unfold byteP litN; rw [h1, h2]
  unfold codeP
  simp only [e1, e2]
theorem okS_first (Y : Lay) : okS Y (fun _ _ => 1024) := fun i _ => okS_one Y i

/-- The state behind packets that were told. -/
def tellL : MSt → List Pk → MSt
  | S, [] => S
  | S, p :: l => tellL (tellS S p) l
def RoomL (L : Lay) : MSt → List Pk → Prop
  | _, [] => True
  | S, p :: l => Room L S p ∧ RoomL L (tellS S p) l
def putL (L : Lay) : MSt → List Pk → CSt → CSt
  | _, [], s => s
  | S, p :: l, s => putL L (tellS S p) l (encP L S p s).2
/-- The packets that a decoder gets, and what it is then. -/
def GetsL (L : Lay) : MSt → List Pk → Dec → Prb → Dec → Prb → Prop
  | _, [], D, P, D', P' => D' = D ∧ P' = P
  | S, p :: l, D, P, D', P' => ∃ D1 P1, gotP L S (.dec D, P) = p ∧ gotE L S (.dec D, P) = false ∧ (getP L S (.dec D, P)).2 = (.dec D1, P1) ∧ D1.bad = false ∧ Room L S p ∧ GetsL L (tellS S p) l D1 P1 D' P'

theorem Room.most {L Z : Lay} (h : Z.most = L.most) {S : MSt} {p : Pk} (hr : Room L S p) : Room Z S p := by unfold Room at *; rw [h]; exact hr
theorem RoomL.most {L Z : Lay} (h : Z.most = L.most) : ∀ {l : List Pk} {S : MSt}, RoomL L S l → RoomL Z S l
  | [], _, _ => trivial
  | _ :: _, _, hr => ⟨hr.1.most h, RoomL.most h hr.2⟩
theorem putL_congr {Y Z : Lay} (h1 : Z.lc = Y.lc) (h2 : Z.lp = Y.lp) (h3 : Z.pb = Y.pb) : ∀ (l : List Pk) (S : MSt) (s : CSt), putL Z S l s = putL Y S l s
  | [], _, _ => rfl
  | p :: l, S, s => by
    unfold putL encP
    rw [codeP_congr h1 h2 h3]
    exact putL_congr h1 h2 h3 l _ _

theorem told_of {L : Lay} {S : MSt} {p : Pk} (h : Room L S p) :
    (p.k.toNat = 1 ∧ p.y.toNat < 256 ∨ p.k.toNat = 2 ∧ dN p < 4294967296 ∧ (p.l - 2).toNat < 272 ∨ p.k.toNat = 3 ∧ p.d.toNat ≤ 3 ∧ (p.l - 2).toNat < 272 ∨ p.k.toNat = 4 ∧ p.d.toNat = 0) ∧
    toldV p.k.toNat p.d.toNat (p.l - 2).toNat (dN p) p.y.toNat = (p.k.toNat, p.d.toNat, p.l.toNat, p.y.toNat, false) ∧ ((p.k.toNat : Nat) : Int) = p.k ∧ ((p.d.toNat : Nat) : Int) = p.d ∧ ((p.l.toNat : Nat) : Int) = p.l := by
  have hk := fits_kinds h.1
  have hy := p.y.toNat_lt
  have hd : 1 ≤ p.d → dN p = (p.d - 1).toNat := fun h => by unfold dN; rw [if_neg (by omega)]
  unfold toldV
  rcases hk with ⟨h1, h2, h3⟩ | ⟨h1, h2, h3, h4, h5, h6, h7⟩ | ⟨h1, h2, h3, h4, h5, h6⟩ | ⟨h1, h2, h3, h4⟩
  · refine ⟨by omega, ?_, by omega, by omega, by omega⟩
    rw [if_pos (by omega), h1, h2, h3]; rfl
  · have e := hd h3
    refine ⟨by omega, ?_, by omega, by omega, by omega⟩
    rw [if_neg (by omega), if_pos (by omega), if_neg (by omega), e]
    have e1 : (p.d - 1).toNat + 1 = p.d.toNat := by omega
    have e2 : (p.l - 2).toNat + 2 = p.l.toNat := by omega
    have e3 : p.k.toNat = 2 := by omega
    have e4 : p.y.toNat = 0 := by omega
    rw [e1, e2, e3, e4]
  · refine ⟨by omega, ?_, by omega, by omega, by omega⟩
    rw [if_neg (by omega), if_neg (by omega), if_pos (by omega)]
    have e2 : (p.l - 2).toNat + 2 = p.l.toNat := by omega
    have e3 : p.k.toNat = 3 := by omega
    have e4 : p.y.toNat = 0 := by omega
    rw [e2, e3, e4]
  · refine ⟨by omega, ?_, by omega, by omega, by omega⟩
    rw [if_neg (by omega), if_neg (by omega), if_neg (by omega)]
    have e1 : p.d.toNat = 0 := by omega
    have e2 : p.l.toNat = 0 := by omega
    have e3 : p.k.toNat = 4 := by omega
    have e4 : p.y.toNat = 0 := by omega
    rw [e1, e2, e3, e4]

theorem tellS_st {L : Lay} {S : MSt} {p : Pk} (hs : S.st < 12) (h : Room L S p) : (tellS S p).st < 12 := nextS_lt hs (by have := h.2.1; omega) (by have := h.2.2.1; omega)

theorem gotE_eq (L : Lay) (S : MSt) (s : CSt) : gotE L S s = (getP L S s).1.2.2.2.2 := rfl
theorem getP_eq {Y Z : Lay} (h1 : Z.lc = Y.lc) (h2 : Z.lp = Y.lp) (h3 : Z.pb = Y.pb) (S : MSt) (s : CSt) : getP Z S s = codeP Y S 0 0 0 4294967295 0 s := codeP_congr h1 h2 h3 ..

/-- A packet that is put is got. -/
theorem gets_step {Y Z : Lay} (h1 : Z.lc = Y.lc) (h2 : Z.lp = Y.lp) (h3 : Z.pb = Y.pb) (hp : Y.lc + Y.lp ≤ 4) (hpb : Y.pb ≤ 4) (S : MSt) (p : Pk) (E : Cas.Enc) (P : Prb) (hE : Enc.Good E) (hP : okS Y P) (hs : S.st < 12) (hr : Room Y S p) :
    ∃ E' P', (encP Y S p (.enc E, P)).2 = (.enc E', P') ∧ Enc.Good E' ∧ Enc.Within E E' ∧ okS Y P' ∧ ∀ B, Lies B E' → gotP Z S (.dec (Dec.at_ B E 0), P) = p ∧ gotE Z S (.dec (Dec.at_ B E 0), P) = false ∧ (getP Z S (.dec (Dec.at_ B E 0), P)).2 = (.dec (Dec.at_ B E' 0), P') := by
  obtain ⟨hk, ht, e1, e2, e3⟩ := told_of hr
  obtain ⟨dm, hdm⟩ : ∃ dm, (4294967295 : Nat) = dm := ⟨_, rfl⟩
  obtain ⟨E1, P1, a1, a2, a3, a4, a5⟩ := sy_code (Y := Y) (S := S) (pt := 0) (kd' := 0) (ds' := 0) (n' := 0) (d' := dm) (y' := 0) hp hpb hs hk E P hE hP
  rw [ht] at a1 a5
  have hg : ∀ B, Lies B E1 → getP Z S (.dec (Dec.at_ B E 0), P) = ((p.k.toNat, p.d.toNat, p.l.toNat, p.y.toNat, false), .dec (Dec.at_ B E1 0), P1) := fun B hB => by
    rw [getP_eq h1 h2 h3, hdm]
    exact a5 B hB
  refine ⟨E1, P1, ?_, a2, a3, a4, fun B hB => ⟨?_, ?_, ?_⟩⟩
  · unfold encP
    rw [a1]
  · unfold gotP
    rw [hg B hB]
    obtain ⟨k, d, n, y⟩ := p
    dsimp only at e1 e2 e3 ⊢
    rw [e1, e2, e3, UInt8.ofNat_toNat]
  · rw [gotE_eq, hg B hB]
  · rw [hg B hB]

theorem putL_cons (L : Lay) (S : MSt) (p : Pk) (l : List Pk) (s : CSt) : putL L S (p :: l) s = putL L (tellS S p) l (encP L S p s).2 := rfl
theorem tellL_cons (S : MSt) (p : Pk) (l : List Pk) : tellL S (p :: l) = tellL (tellS S p) l := rfl

/-- What is put, one after another, is got. -/
theorem gets_of_puts {Y Z : Lay} (h1 : Z.lc = Y.lc) (h2 : Z.lp = Y.lp) (h3 : Z.pb = Y.pb) (hp : Y.lc + Y.lp ≤ 4) (hpb : Y.pb ≤ 4) (l : List Pk) : ∀ (S : MSt) (E : Cas.Enc) (P : Prb), Enc.Good E → okS Y P → S.st < 12 → RoomL Y S l → RoomL Z S l →
    ∃ E' P', putL Y S l (.enc E, P) = (.enc E', P') ∧ Enc.Good E' ∧ Enc.Within E E' ∧ okS Y P' ∧ (tellL S l).st < 12 ∧ ∀ B, Lies B E' → GetsL Z S l (Dec.at_ B E 0) P (Dec.at_ B E' 0) P' := by
  induction l with
  | nil => exact fun S E P hE hP hs _ _ => ⟨E, P, rfl, hE, Enc.Within.refl _, hP, hs, fun _ _ => ⟨rfl, rfl⟩⟩
  | cons p l ih =>
    intro S E P hE hP hs hr hz
    obtain ⟨E1, P1, a1, a2, a3, a4, a5⟩ := gets_step h1 h2 h3 hp hpb S p E P hE hP hs hr.1
    obtain ⟨E2, P2, b1, b2, b3, b4, b5, b6⟩ := ih (tellS S p) E1 P1 a2 a4 (tellS_st hs hr.1) hr.2 hz.2
    refine ⟨E2, P2, ?_, b2, a3.trans b3, b4, b5, fun B hB => ?_⟩
    · rw [putL_cons, a1]
      exact b1
    · obtain ⟨c1, c2, c3⟩ := a5 B (hB.of b3)
      exact ⟨Dec.at_ B E1 0, P1, c1, c2, c3, rfl, hz.1, b6 B hB⟩

theorem toldV_end (dm : Nat) (h : (4294967295 : Nat) = dm) : toldV 2 0 0 dm 0 = (0, 0, 0, 0, true) := by
  unfold toldV
  rw [if_neg (by decide), if_pos rfl, if_pos h.symm]
theorem endP_eq (Y : Lay) (S : MSt) (s : CSt) (dm : Nat) (h : (4294967295 : Nat) = dm) : endP Y S s = codeP Y S 2 0 0 dm 0 s := by rw [← h]; rfl

theorem gets_end {Y Z : Lay} (h1 : Z.lc = Y.lc) (h2 : Z.lp = Y.lp) (h3 : Z.pb = Y.pb) (hp : Y.lc + Y.lp ≤ 4) (hpb : Y.pb ≤ 4) (S : MSt) (E : Cas.Enc) (P : Prb) (hE : Enc.Good E) (hP : okS Y P) (hs : S.st < 12) :
    ∃ E' P', (endP Y S (.enc E, P)).2 = (.enc E', P') ∧ Enc.Good E' ∧ Enc.Within E E' ∧ ∀ B, Lies B E' → gotE Z S (.dec (Dec.at_ B E 0), P) = true ∧ (getP Z S (.dec (Dec.at_ B E 0), P)).2 = (.dec (Dec.at_ B E' 0), P') := by
  obtain ⟨dm, hdm⟩ : ∃ dm, (4294967295 : Nat) = dm := ⟨_, rfl⟩
  obtain ⟨E1, P1, a1, a2, a3, a4, a5⟩ := sy_code (Y := Y) (S := S) (pt := 0) (kd := 2) (ds := 0) (n := 0) (d := dm) (y := 0) (kd' := 0) (ds' := 0) (n' := 0) (d' := dm) (y' := 0) hp hpb hs (by omega) E P hE hP
  rw [toldV_end dm hdm] at a1 a5
  have hg : ∀ B, Lies B E1 → getP Z S (.dec (Dec.at_ B E 0), P) = ((0, 0, 0, 0, true), .dec (Dec.at_ B E1 0), P1) := fun B hB => by
    rw [getP_eq h1 h2 h3, hdm]
    exact a5 B hB
  refine ⟨E1, P1, ?_, a2, a3, fun B hB => ⟨?_, ?_⟩⟩
  · rw [endP_eq Y S _ dm hdm, a1]
  · rw [gotE_eq, hg B hB]
  · rw [hg B hB]

/-- Params on paper. -/
def Lay.of (lc lp pb most : Nat) : Lay := ⟨fun _ => 0, 0, 0, 0, lc, lp, pb, most⟩
/-- The coder behind packets, and the end. -/
def codedL (L : Lay) (l : List Pk) (e : Bool) : CSt := if e = true then (endP L (tellL firstS l) (putL L firstS l (.enc Enc.first, firstP))).2 else putL L firstS l (.enc Enc.first, firstP)
def bytesOf : Cdr → List UInt8
  | .enc E => E.ended
  | .dec _ => []
/-- What a list of packets is in bytes. -/
def bytesL (L : Lay) (l : List Pk) (e : Bool) : List UInt8 := bytesOf (codedL L l e).1

theorem endP_congr {Y Z : Lay} (h1 : Z.lc = Y.lc) (h2 : Z.lp = Y.lp) (h3 : Z.pb = Y.pb) (S : MSt) (s : CSt) : endP Z S s = endP Y S s := codeP_congr h1 h2 h3 ..
/-- What a decoder of bytes gets: the packets, then the end where it is asked; then all bytes are read. -/
def Reads (Z : Lay) (B : List UInt8) (l : List Pk) (e : Bool) : Prop :=
  ∃ D' P', GetsL Z firstS l (Dec.start B) firstP D' P' ∧
    (if e = true then ∃ D2 P2, gotE Z (tellL firstS l) (.dec D', P') = true ∧ (getP Z (tellL firstS l) (.dec D', P')).2 = (.dec D2, P2) ∧ D2.bad = false ∧ D2.rest = [] ∧ D2.code = 0 else D'.bad = false ∧ D'.rest = [] ∧ D'.code = 0)

theorem reads_coded {Y Z : Lay} (h1 : Z.lc = Y.lc) (h2 : Z.lp = Y.lp) (h3 : Z.pb = Y.pb) (hp : Y.lc + Y.lp ≤ 4) (hpb : Y.pb ≤ 4) (l : List Pk) (e : Bool) (hr : RoomL Y firstS l) (hz : RoomL Z firstS l) : Reads Z (bytesL Y l e) l e := by
  obtain ⟨E, P, a1, a2, a3, a4, a5, a6⟩ := gets_of_puts h1 h2 h3 hp hpb l firstS Enc.first firstP good_first (okS_first Y) (by decide) hr hz
  unfold Reads bytesL codedL
  cases e with
  | false =>
    rw [if_neg (by decide), a1]
    have hB := Lies.ended a2
    refine ⟨Dec.at_ E.ended E 0, P, ?_, ?_⟩
    · show GetsL Z firstS l (Dec.start E.ended) firstP _ P
      rw [sync_start (hB.of a3)]
      exact a6 _ hB
    · rw [if_neg (by decide), at_ended a2]
      exact ⟨rfl, rfl, rfl⟩
  | true =>
    rw [if_pos rfl, a1]
    obtain ⟨E2, P2, b1, b2, b3, b4⟩ := gets_end h1 h2 h3 hp hpb (tellL firstS l) E P a2 a4 a5
    rw [b1]
    have hB := Lies.ended b2
    refine ⟨Dec.at_ E2.ended E 0, P, ?_, ?_⟩
    · show GetsL Z firstS l (Dec.start E2.ended) firstP _ P
      rw [sync_start (hB.of (a3.trans b3))]
      exact a6 _ (hB.of b3)
    · rw [if_pos rfl]
      obtain ⟨c1, c2⟩ := b4 _ hB
      refine ⟨_, _, c1, c2, ?_⟩
      rw [at_ended b2]
      exact ⟨rfl, rfl, rfl⟩

/-- Packets that tell a text have room. -/
theorem room_of_apply {L : Lay} {M : Nat} (hM : M ≤ L.most) (hm : L.most ≤ 100000000) : ∀ (l : List Pk) (S : MSt), (applyGo M l S.text (S.r0, S.r1, S.r2, S.r3)).2 = 0 →
    RoomL L S l ∧ (tellL S l).text = (applyGo M l S.text (S.r0, S.r1, S.r2, S.r3)).1
  | [], S, _ => ⟨trivial, rfl⟩
  | p :: l, S, h => by
    by_cases h1 : p.k = 1 ∧ p.d = 0 ∧ p.l = 0
    · have hf : fitsL p.k p.d p.l p.y.toNat S.text.length S.r0 S.r1 S.r2 S.r3 = (0, 1, (S.r0, S.r1, S.r2, S.r3), true) := by unfold fitsL; rw [if_pos h1]
      have ht : tellS S p = ⟨nextS S.st p.k.toNat, S.r0, S.r1, S.r2, S.r3, S.text ++ [p.y]⟩ := by unfold tellS; rw [hf]; dsimp only; rw [if_pos h1.1]
      unfold applyGo at h ⊢
      rw [if_pos h1] at h ⊢
      by_cases h2 : S.text.length < M
      · rw [if_pos h2] at h ⊢
        have ih := room_of_apply hM hm l (tellS S p)
        rw [ht] at ih
        refine ⟨⟨?_, ?_⟩, ?_⟩
        · unfold Room
          rw [hf]
          dsimp only
          exact ⟨rfl, by omega, by omega, fun h => absurd h1.1 h, by omega, by omega, hm⟩
        · rw [ht]; exact (ih h).1
        · show (tellL (tellS S p) l).text = _
          rw [ht]; exact (ih h).2
      · rw [if_neg h2] at h; cases h
    · have hb := fits_bound p.k p.d p.l p.y.toNat S.text.length S.r0 S.r1 S.r2 S.r3 h1
      unfold applyGo at h ⊢
      rw [if_neg h1] at h ⊢
      have hk := @fits_kinds p.k p.d p.l p.y.toNat S.text.length S.r0 S.r1 S.r2 S.r3
      have ht : tellS S p = ⟨nextS S.st p.k.toNat, (fitsL p.k p.d p.l p.y.toNat S.text.length S.r0 S.r1 S.r2 S.r3).2.2.1.1, (fitsL p.k p.d p.l p.y.toNat S.text.length S.r0 S.r1 S.r2 S.r3).2.2.1.2.1,
        (fitsL p.k p.d p.l p.y.toNat S.text.length S.r0 S.r1 S.r2 S.r3).2.2.1.2.2.1, (fitsL p.k p.d p.l p.y.toNat S.text.length S.r0 S.r1 S.r2 S.r3).2.2.1.2.2.2,
        if p.k = 1 then S.text ++ [p.y] else copyL S.text (fitsL p.k p.d p.l p.y.toNat S.text.length S.r0 S.r1 S.r2 S.r3).1.toNat (fitsL p.k p.d p.l p.y.toNat S.text.length S.r0 S.r1 S.r2 S.r3).2.1.toNat⟩ := rfl
      have hR : Room L S p ↔ (fitsL p.k p.d p.l p.y.toNat S.text.length S.r0 S.r1 S.r2 S.r3).2.2.2 = true ∧ 1 ≤ p.k ∧ p.k ≤ 4 ∧
        (p.k ≠ 1 → 1 ≤ (fitsL p.k p.d p.l p.y.toNat S.text.length S.r0 S.r1 S.r2 S.r3).1 ∧ (fitsL p.k p.d p.l p.y.toNat S.text.length S.r0 S.r1 S.r2 S.r3).1 ≤ S.text.length) ∧
        1 ≤ (fitsL p.k p.d p.l p.y.toNat S.text.length S.r0 S.r1 S.r2 S.r3).2.1 ∧ (S.text.length : Int) + (fitsL p.k p.d p.l p.y.toNat S.text.length S.r0 S.r1 S.r2 S.r3).2.1 ≤ L.most ∧ L.most ≤ 100000000 := Iff.rfl
      generalize fitsL p.k p.d p.l p.y.toNat S.text.length S.r0 S.r1 S.r2 S.r3 = f at *
      by_cases h2 : f.2.2.2 = true
      · rw [if_pos h2] at h ⊢
        have hk2 := hk h2
        have hb2 := hb h2
        by_cases h3 : 1 ≤ f.1 ∧ f.1 ≤ S.text.length ∧ 0 ≤ f.2.1 ∧ f.2.1 ≤ (M : Int) - S.text.length
        · rw [if_pos h3] at h ⊢
          have ih := room_of_apply hM hm l (tellS S p)
          rw [ht, if_neg (show ¬ p.k = 1 from by omega)] at ih
          refine ⟨⟨?_, ?_⟩, ?_⟩
          · exact hR.2 ⟨h2, by omega, by omega, fun _ => ⟨h3.1, h3.2.1⟩, hb2.1, by omega, hm⟩
          · rw [ht, if_neg (show ¬ p.k = 1 from by omega)]; exact (ih h).1
          · show (tellL (tellS S p) l).text = _
            rw [ht, if_neg (show ¬ p.k = 1 from by omega)]; exact (ih h).2
        · rw [if_neg h3] at h; cases h
      · rw [if_neg h2] at h; cases h
end Go.Proofs.YtalopgbkjgjppaaGreatDoor

/- The plain law: packets that tell a text are put, and got back. -/
namespace Go.Proofs.YtalopgbkjgjppaaGreatDoor
open Go.RowKit Go.Cas Go.Cas.Enc

theorem coded_back {l : List Pk} {t : List UInt8} {lc lp pb R : Nat} (e : Bool) (h1 : lc + lp ≤ 4) (h2 : pb ≤ 4) (hap : applyL l (t.length : Int) = (t, 0)) (hR : t.length ≤ R) (hR2 : R ≤ 100000000) (ht : t.length ≤ 16777216) :
    RoomL (Lay.of lc lp pb 16777216) firstS l ∧ (tellL firstS l).text = t ∧ Reads (Lay.of lc lp pb R) (bytesL (Lay.of lc lp pb 16777216) l e) l e := by
  have hap' : applyGo t.length l firstS.text (firstS.r0, firstS.r1, firstS.r2, firstS.r3) = (t, 0) := by
    have := hap
    unfold applyL at this
    rw [Int.toNat_natCast] at this
    exact this
  have hY := room_of_apply (L := Lay.of lc lp pb 16777216) (M := t.length) ht (by show (16777216 : Nat) ≤ _; omega) l firstS (by rw [hap'])
  have hZ := room_of_apply (L := Lay.of lc lp pb R) (M := t.length) hR hR2 l firstS (by rw [hap'])
  exact ⟨hY.1, by rw [hY.2, hap'], reads_coded (Y := Lay.of lc lp pb 16777216) (Z := Lay.of lc lp pb R) rfl rfl rfl h1 h2 l e hY.1 hZ.1⟩
end Go.Proofs.YtalopgbkjgjppaaGreatDoor
