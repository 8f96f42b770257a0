/- What coding keeps: a coder that goes on, probabilities that may be, how many bytes there are. No walk. -/
import Derived.Test.YtalopgbkjgjppaaGreatDoorGMm
namespace Go.Proofs.YtalopgbkjgjppaaGreatDoor
open Go.RowKit Go.Cas Go.Cas.Enc

/-- A coder that is well, and has so many bytes at most. -/
def Cdr.fit (C : Cdr) (k : Nat) : Prop := C.ok ∧ C.n ≤ k

theorem Cdr.bit_fit {C : Cdr} {k p : Nat} (h : C.fit k) (hp : okPr p) (b : Nat) : (C.bit p b).2.fit (k + 4) := by
  obtain ⟨h1, h2⟩ := h
  cases C with
  | enc E => exact ⟨(bit_step h1 hp b).1, Nat.le_trans (bit_n E p b) (by have : E.n ≤ k := h2; omega)⟩
  | dec D => exact ⟨dec_bit_ok h1 hp, Nat.zero_le _⟩
theorem Cdr.bit_le (C : Cdr) (p v n : Nat) : (C.bit p (v / n % 2)).1 ≤ 1 := by
  cases C with
  | enc E => show v / n % 2 ≤ 1; omega
  | dec D => exact dec_bit_le D p
theorem Cdr.half_fit {C : Cdr} {k : Nat} (h : C.fit k) (b : Nat) : (C.half b).2.fit (k + 4) := by
  obtain ⟨h1, h2⟩ := h
  cases C with
  | enc E => exact ⟨(half_step h1 b).1, Nat.le_trans (half_n E b) (by have : E.n ≤ k := h2; omega)⟩
  | dec D => exact ⟨dec_half_ok h1, Nat.zero_le _⟩
theorem Cdr.fit.mono {C : Cdr} {k l : Nat} (h : C.fit k) (hl : k ≤ l) : C.fit l := ⟨h.1, Nat.le_trans h.2 hl⟩

theorem treeR_fit {N T : Nat} (hN : 2 ^ T ≤ N) (v : Nat) : ∀ n m C f k, C.fit k → TreeOk f N → (m + 1) * 2 ^ n ≤ 2 ^ (T + 1) → (treeR v n m C f).2.1.fit (k + 4 * n) ∧ TreeOk (treeR v n m C f).2.2 N ∧ ((treeR v n m C f).1 + 1) ≤ (m + 1) * 2 ^ n
  | 0, m, C, f, k, h, ht, hm => ⟨h, ht, by show m + 1 ≤ (m + 1) * 1; omega⟩
  | n + 1, m, C, f, k, h, ht, hm => by
    rw [treeR]
    have hb := C.bit_le (f m) v (2 ^ n)
    have e : (m + 1) * 2 ^ (n + 1) = (2 * m + 2) * 2 ^ n := by rw [Nat.pow_succ, Nat.mul_comm (2 ^ n) 2, ← Nat.mul_assoc]; congr 1; omega
    have hmN : m < N := by
      have h1 : (m + 1) * 2 ^ 1 ≤ (m + 1) * 2 ^ (n + 1) := Nat.mul_le_mul_left _ (Nat.pow_le_pow_right (by decide) (by omega))
      have h2 : 2 ^ (T + 1) = 2 * 2 ^ T := by rw [Nat.pow_succ]; omega
      omega
    have hm2 : ((2 * m + (C.bit (f m) (v / 2 ^ n % 2)).1) + 1) * 2 ^ n ≤ (m + 1) * 2 ^ (n + 1) := by
      rw [e]; exact Nat.mul_le_mul_right _ (by omega)
    obtain ⟨r1, r2, r3⟩ := treeR_fit hN v n _ _ _ (k + 4) (C.bit_fit h (ht m hmN) _) (ht.upd m _ hmN) (Nat.le_trans hm2 hm)
    exact ⟨r1.mono (by omega), r2, Nat.le_trans r3 hm2⟩

theorem backR_fit {N T : Nat} (hN : 2 ^ T ≤ N) (v : Nat) : ∀ j i m acc C f k, C.fit k → TreeOk f N → i + j = T → m < 2 ^ (i + 1) → acc < 2 ^ i → (backR v j i m acc C f).2.1.fit (k + 4 * j) ∧ TreeOk (backR v j i m acc C f).2.2 N ∧ (backR v j i m acc C f).1 < 2 ^ T
  | 0, i, m, acc, C, f, k, h, ht, hi, hm, ha => ⟨h, ht, by obtain rfl : i = T := by omega
                                                           exact ha⟩
  | j + 1, i, m, acc, C, f, k, h, ht, hi, hm, ha => by
    rw [backR]
    have hb := C.bit_le (f m) v (2 ^ i)
    have hmN : m < N := Nat.lt_of_lt_of_le (back_lt (by omega) hm) hN
    obtain ⟨r1, r2, r3⟩ := backR_fit hN v j (i + 1) _ _ _ _ (k + 4) (C.bit_fit h (ht m hmN) _) (ht.upd m _ hmN) (by omega) (back_next hm hb) (back_acc hb ha)
    exact ⟨r1.mono (by omega), r2, r3⟩

theorem likeR_fit {N : Nat} (hN : 768 ≤ N) (v : Nat) : ∀ j pl hf ot C f k, C.fit k → TreeOk f N → j ≤ 8 → pl < 2 ^ (8 - j + 1) → (hf = 0 ∨ hf = 256) → (likeR v j pl hf ot C f).2.1.fit (k + 4 * j) ∧ TreeOk (likeR v j pl hf ot C f).2.2 N
  | 0, pl, hf, ot, C, f, k, h, ht, _, _, _ => ⟨h, ht⟩
  | j + 1, pl, hf, ot, C, f, k, h, ht, hj, hp, hh => by
    rw [likeR]
    have hpl2 : pl < 256 := Nat.lt_of_lt_of_le hp (show 2 ^ (8 - (j + 1) + 1) ≤ 2 ^ 8 from Nat.pow_le_pow_right (by decide) (by omega))
    have hi := likeI_lt (ot := ot) hpl2 hh
    have hb := C.bit_le (f (likeI pl hf ot)) v (2 ^ j)
    have hiN : likeI pl hf ot < N := by omega
    have hpn : 2 * pl + (C.bit (f (likeI pl hf ot)) (v / 2 ^ j % 2)).1 < 2 ^ (8 - j + 1) := by
      have e : 2 ^ (8 - j + 1) = 2 * 2 ^ (8 - (j + 1) + 1) := by rw [show 8 - j + 1 = (8 - (j + 1) + 1) + 1 from by omega, Nat.pow_succ]; omega
      omega
    obtain ⟨r1, r2⟩ := likeR_fit hN v j _ _ _ _ _ (k + 4) (C.bit_fit h (ht _ hiN) _) (ht.upd _ _ hiN) (by omega) hpn (likeH_or hh)
    exact ⟨r1.mono (by omega), r2⟩

theorem dir_fit (v : Nat) : ∀ n acc C k, C.fit k → (Cdr.dir v n acc C).2.fit (k + 4 * n)
  | 0, acc, C, k, h => h
  | n + 1, acc, C, k, h => by
    rw [Cdr.dir]
    exact (dir_fit v n _ _ (k + 4) (Cdr.half_fit h _)).mono (by omega)

theorem dir_lt (v : Nat) : ∀ n acc C, (Cdr.dir v n acc C).1 < (acc + 1) * 2 ^ n
  | 0, acc, C => by show acc < (acc + 1) * 1; omega
  | n + 1, acc, C => by
    rw [Cdr.dir]
    have hb : (C.half (v / 2 ^ n % 2)).1 ≤ 1 := by
      cases C with
      | enc E => show v / 2 ^ n % 2 ≤ 1; omega
      | dec D => exact dec_half_le D
    refine Nat.lt_of_lt_of_le (dir_lt v n _ _) ?_
    have e : (acc + 1) * 2 ^ (n + 1) = (2 * acc + 2) * 2 ^ n := by rw [Nat.pow_succ, Nat.mul_comm (2 ^ n) 2, ← Nat.mul_assoc]; congr 1; omega
    rw [e]
    exact Nat.mul_le_mul_right _ (by omega)

/-- The coder and the probabilities. -/
abbrev CSt := Cdr × Prb
def bitP (i o h : Nat) (s : CSt) : Nat × CSt := ((s.1.bit (s.2 i o) h).1, (s.1.bit (s.2 i o) h).2, s.2.row i (updF (s.2 i) o (learnP (s.2 i o) (s.1.bit (s.2 i o) h).1)))
def treeP (i n h : Nat) (s : CSt) : Nat × CSt := ((s.1.tree n h (s.2 i)).1, (s.1.tree n h (s.2 i)).2.1, s.2.row i (s.1.tree n h (s.2 i)).2.2)
def backP (i n h : Nat) (s : CSt) : Nat × CSt := ((s.1.back n h (s.2 i)).1, (s.1.back n h (s.2 i)).2.1, s.2.row i (s.1.back n h (s.2 i)).2.2)
def likeP (i h other : Nat) (s : CSt) : Nat × CSt := ((s.1.like h other (s.2 i)).1, (s.1.like h other (s.2 i)).2.1, s.2.row i (s.1.like h other (s.2 i)).2.2)
def dirP (n h : Nat) (s : CSt) : Nat × CSt := ((Cdr.dir h n 0 s.1).1, (Cdr.dir h n 0 s.1).2, s.2)

/-- What a call of the coder leaves. -/
def MCall (w w' : World) (z : Ending) (v : Value) (L : Lay) (S : MSt) (q : Option Addr) (cap x : Nat) (F : Nat → Prop) (k : Nat) (s : CSt) : Prop := z = .returned v ∧ Coded w w' L S q cap x F s ∧ s.1.n ≤ k

section
variable {w : World} {L : Lay} {S : MSt} {P : Prb} {q : Option Addr} {cap x : Nat} {C : Cdr} {F : Nat → Prop}

theorem MC.bit {i o h k : Nat} {hI : Int} (hm : MC w L S P q cap x C F) (hk : C.n ≤ k) (hk2 : k ≤ 90000000) (hio : i = 0 ∧ 10 ≤ o ∧ o < 442 ∨ (i = 1 ∨ i = 2) ∧ o < 2) (hh : Hint C h hI 2) :
    Calls Tryz.prog (fnBit C) #[recv x, .pointer (some ⟨L.φ i, o, none⟩), .int .i64 hI] w fun z w' => MCall w w' z (i6 (bitP i o h (C, P)).1) L S q cap x F (k + 4) (bitP i o h (C, P)).2 := by
  have hu : L.used i := used_small (by omega) (by omega)
  have hok := hm.mm.ok i hu
  have hpr : okPr (P i o) ∧ okRow (updF (P i) o (learnP (P i o) (C.bit (P i o) h).1)) i := by
    rcases hio with ⟨rfl, h1, h2⟩ | ⟨hi, h2⟩
    · exact ok_bit0 hok h1 h2
    · exact ok_bit12 hi hok h2
  have hco : (cellsOf L S (P i) i)[o]? = some (v16 (P i o)) := by
    rcases hio with ⟨rfl, h1, h2⟩ | ⟨hi, h2⟩
    · unfold cellsOf; rw [if_pos rfl, rowV_get _ (by omega)]; unfold mcell; rw [if_pos ⟨h1, h2⟩]
    · unfold cellsOf; rw [if_neg (by omega), if_pos (by omega), rowV_get _ (by omega)]; unfold lcell; rw [if_pos h2]
  have hset : (cellsOf L S (P i) i).setIfInBounds o (v16 (learnP (P i o) (C.bit (P i o) h).1)) = cellsOf L S (updF (P i) o (learnP (P i o) (C.bit (P i o) h).1)) i := by
    rcases hio with ⟨rfl, h1, h2⟩ | ⟨hi, h2⟩
    · exact cells_bit0 L S _ _ h1 h2
    · exact cells_bit12 L S _ _ hi h2
  have hf := Cdr.bit_fit (C := C) ⟨hm.ok, hk⟩ hpr.1 h
  refine (m_bit x (L.φ i) o (P i o) h hI C F _ _ w hm.cm hm.ok (by omega) hh hpr.1 (hm.mm.blk i hu) hco (hm.nf hu)).mono fun z w' hz => ⟨hz.1, ?_, hf.2⟩
  exact hm.coded hu hz.2 hset rfl hpr.2 hf.1

theorem MC.tree {i n h k : Nat} {hI : Int} (hm : MC w L S P q cap x C F) (hk : C.n ≤ k) (hk2 : k ≤ 90000000) (hu : L.used i) (hi : 3 ≤ i) (hn : tsz i = 2 ^ n) (hn16 : n ≤ 16) (hh : Hint C h hI (2 ^ n)) :
    Calls Tryz.prog (fnTree C) #[recv x, L.tree i, .int .i64 hI] w fun z w' => MCall w w' z (i6 (treeP i n h (C, P)).1) L S q cap x F (k + 4 * n) (treeP i n h (C, P)).2 := by
  have hB := hm.mm.blk i hu
  rw [cells_tree L S _ hi, typ_tree hi] at hB
  have ht := (ok_tree hi).1 (hm.mm.ok i hu)
  have hf := treeR_fit (Nat.le_of_eq hn.symm) h n 1 C (P i) k ⟨hm.ok, hk⟩ ht (by rw [Nat.pow_succ]; omega)
  have ev : L.tree i = .slice (some ⟨L.φ i, 0, none⟩) (2 ^ n) (tsz i) := by unfold Lay.tree; rw [hn]
  rw [ev]
  refine (m_tree x (L.φ i) n (tsz i) h (tsz i) hI C F (P i) w hm.cm hm.ok (by omega) hn16 (Nat.le_of_eq hn.symm) hh hB ht (hm.nf hu)).mono fun z w' hz => ⟨hz.1, ?_, hf.1.2⟩
  exact hm.coded hu hz.2 (cells_tree L S _ hi).symm (typ_tree hi).symm ((ok_tree hi).2 hf.2.1) hf.1.1

theorem MC.tree_lt {i n h : Nat} (hm : MC w L S P q cap x C F) (hu : L.used i) (hi : 3 ≤ i) (hn : tsz i = 2 ^ n) : (treeP i n h (C, P)).1 < 2 ^ n := by
  have ht := (ok_tree hi).1 (hm.mm.ok i hu)
  have hf := (treeR_fit (Nat.le_of_eq hn.symm) h n 1 C (P i) _ ⟨hm.ok, Nat.le_refl _⟩ ht (by rw [Nat.pow_succ]; omega)).2.2
  have hp : 0 < 2 ^ n := Nat.pow_pos (by decide)
  show (treeR h n 1 C (P i)).1 - 2 ^ n < 2 ^ n
  omega

theorem MC.back_lt {i n h : Nat} (hm : MC w L S P q cap x C F) (hu : L.used i) (hi : 3 ≤ i) (hn : tsz i = 2 ^ n) : (backP i n h (C, P)).1 < 2 ^ n := by
  have ht := (ok_tree hi).1 (hm.mm.ok i hu)
  exact (backR_fit (Nat.le_of_eq hn.symm) h n 0 1 0 C (P i) _ ⟨hm.ok, Nat.le_refl _⟩ ht (by omega) (by decide) (by decide)).2.2

theorem MC.treeL {a h k : Nat} {hI : Int} (hm : MC w L S P q cap x C F) (hk : C.n ≤ k) (hk2 : k ≤ 90000000) (ha : a < L.cnt) (hh : Hint C h hI 256) :
    Calls Tryz.prog (fnTree C) #[recv x, .slice (some ⟨L.φ (88 + a), 0, none⟩) 256 1024, .int .i64 hI] w fun z w' => MCall w w' z (i6 (treeP (88 + a) 8 h (C, P)).1) L S q cap x F (k + 32) (treeP (88 + a) 8 h (C, P)).2 := by
  have hu := used_lit ha
  have hi : 3 ≤ 88 + a := by omega
  have hN : tsz (88 + a) = 1024 := by unfold tsz; rw [if_neg (by omega), if_neg (by omega), if_neg (by omega), if_neg (by omega), if_neg (by omega)]
  have hB := hm.mm.blk _ hu
  rw [cells_tree L S _ hi, typ_tree hi] at hB
  have ht := (ok_tree hi).1 (hm.mm.ok _ hu)
  rw [hN] at hB ht
  have hf := treeR_fit (show 2 ^ 8 ≤ 1024 by decide) h 8 1 C (P (88 + a)) k ⟨hm.ok, hk⟩ ht (by decide)
  refine (m_tree x (L.φ (88 + a)) 8 1024 h 1024 hI C F (P (88 + a)) w hm.cm hm.ok (by omega) (by decide) (by decide) hh hB ht (hm.nf hu)).mono fun z w' hz => ⟨hz.1, ?_, hf.1.2⟩
  exact hm.coded hu hz.2 (by rw [cells_tree L S _ hi, hN]) (typ_tree hi).symm ((ok_tree hi).2 (by rw [hN]; exact hf.2.1)) hf.1.1

theorem MC.back {i n h k : Nat} {hI : Int} (hm : MC w L S P q cap x C F) (hk : C.n ≤ k) (hk2 : k ≤ 90000000) (hu : L.used i) (hi : 3 ≤ i) (hn : tsz i = 2 ^ n) (hn16 : n ≤ 16) (hh : Hint C h hI (2 ^ n)) :
    Calls Tryz.prog (fnBack C) #[recv x, L.tree i, .int .i64 hI] w fun z w' => MCall w w' z (i6 (backP i n h (C, P)).1) L S q cap x F (k + 4 * n) (backP i n h (C, P)).2 := by
  have hB := hm.mm.blk i hu
  rw [cells_tree L S _ hi, typ_tree hi] at hB
  have ht := (ok_tree hi).1 (hm.mm.ok i hu)
  have hf := backR_fit (Nat.le_of_eq hn.symm) h n 0 1 0 C (P i) k ⟨hm.ok, hk⟩ ht (by omega) (by decide) (by decide)
  have ev : L.tree i = .slice (some ⟨L.φ i, 0, none⟩) (2 ^ n) (tsz i) := by unfold Lay.tree; rw [hn]
  rw [ev]
  refine (m_back x (L.φ i) n (tsz i) h (tsz i) hI C F (P i) w hm.cm hm.ok (by omega) hn16 (Nat.le_of_eq hn.symm) hh hB ht (hm.nf hu)).mono fun z w' hz => ⟨hz.1, ?_, hf.1.2⟩
  exact hm.coded hu hz.2 (cells_tree L S _ hi).symm (typ_tree hi).symm ((ok_tree hi).2 hf.2.1) hf.1.1

theorem MC.like {a k : Nat} {h other : UInt8} (hm : MC w L S P q cap x C F) (hk : C.n ≤ k) (hk2 : k ≤ 90000000) (ha : a < L.cnt) :
    Calls Tryz.prog (fnLike C) #[recv x, L.tree (88 + a), b8 h, b8 other] w fun z w' => MCall w w' z (b8 (UInt8.ofNat (likeP (88 + a) h.toNat other.toNat (C, P)).1)) L S q cap x F (k + 32) (likeP (88 + a) h.toNat other.toNat (C, P)).2 := by
  have hu := used_lit ha
  have hi : 3 ≤ 88 + a := by omega
  have hN : tsz (88 + a) = 1024 := by unfold tsz; rw [if_neg (by omega), if_neg (by omega), if_neg (by omega), if_neg (by omega), if_neg (by omega)]
  have hB := hm.mm.blk _ hu
  rw [cells_tree L S _ hi, typ_tree hi] at hB
  have ht := (ok_tree hi).1 (hm.mm.ok _ hu)
  rw [hN] at hB ht
  have hf := likeR_fit (show 768 ≤ 1024 by decide) h.toNat 8 1 256 other.toNat C (P (88 + a)) k ⟨hm.ok, hk⟩ ht (by decide) (by decide) (.inr rfl)
  have ev : L.tree (88 + a) = .slice (some ⟨L.φ (88 + a), 0, none⟩) 1024 1024 := by unfold Lay.tree; rw [hN]
  rw [ev]
  refine (m_like x (L.φ (88 + a)) 1024 1024 h other C F (P (88 + a)) w hm.cm hm.ok (by omega) (by decide) (by decide) hB ht (hm.nf hu)).mono fun z w' hz => ⟨hz.1, ?_, hf.1.2⟩
  exact hm.coded hu hz.2 (by rw [cells_tree L S _ hi, hN]) (typ_tree hi).symm ((ok_tree hi).2 (by rw [hN]; exact hf.2)) hf.1.1

theorem MC.direct {n h k : Nat} {hI : Int} (hm : MC w L S P q cap x C F) (hk : C.n ≤ k) (hk2 : k ≤ 90000000) (hn : n ≤ 32) (hh : Hint C h hI (2 ^ n)) :
    Calls Tryz.prog (fnDirect C) #[recv x, .int .u32 hI, i6 n] w fun z w' => MCall w w' z (v32 (dirP n h (C, P)).1) L S q cap x F (k + 4 * n) (dirP n h (C, P)).2 := by
  have hf := dir_fit h n 0 C k ⟨hm.ok, hk⟩
  refine (m_direct x n h hI C F w hm.cm hm.ok (by omega) hn hh).mono fun z w' hz => ⟨hz.1, ?_, hf.2⟩
  obtain ⟨F', h1, h2, h3⟩ := hz.2
  refine ⟨F', ⟨hm.mm.keeps h2 hm.dis hm.f0, h1, hf.1, fun b hb e => ?_, fun e => ?_⟩, h2.mono fun b _ hb => .inr hb, h3⟩
  · rcases h3 b hb with hf | hf
    · exact hm.dis b hf e
    · have := hm.mm.lt b e; omega
  · rcases h3 0 e with hf | hf
    · exact hm.f0 hf
    · have := hm.mm.beh.1; omega
end
end Go.Proofs.YtalopgbkjgjppaaGreatDoor
