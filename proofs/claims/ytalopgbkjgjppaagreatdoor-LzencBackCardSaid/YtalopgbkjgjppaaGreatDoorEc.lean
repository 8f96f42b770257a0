/- The range coder as plain reckoning: what is coded is read again. No program in sight. -/
namespace Go.Cas

/-- Bytes as a number, the highest first. -/
def beN : List UInt8 → Nat
  | [] => 0
  | b :: l => b.toNat * 256 ^ l.length + beN l

theorem beN_append : ∀ a b : List UInt8, beN (a ++ b) = beN a * 256 ^ b.length + beN b
  | [], b => by simp [beN]
  | x :: a, b => by
    rw [List.cons_append, beN, beN, beN_append a b, List.length_append, Nat.pow_add, Nat.add_mul, Nat.mul_assoc, Nat.add_assoc]

theorem beN_lt : ∀ a : List UInt8, beN a < 256 ^ a.length
  | [] => by simp [beN]
  | x :: a => by
    have h := beN_lt a
    have hx := x.toNat_lt
    rw [beN, List.length_cons, Nat.pow_succ]
    have : x.toNat * 256 ^ a.length ≤ 255 * 256 ^ a.length := Nat.mul_le_mul_right _ (by omega)
    omega

theorem beN_snoc (a : List UInt8) (x : UInt8) : beN (a ++ [x]) = beN a * 256 + x.toNat := by
  rw [beN_append]; simp [beN]

theorem beN_ff : ∀ n : Nat, beN (List.replicate n 255) + 1 = 256 ^ n
  | 0 => rfl
  | n + 1 => by
    have h := beN_ff n
    rw [List.replicate_succ, beN, List.length_replicate, Nat.pow_succ, Nat.add_assoc, h]
    show 255 * _ + _ = _
    omega

theorem beN_00 : ∀ n : Nat, beN (List.replicate n 0) = 0
  | 0 => rfl
  | n + 1 => by rw [List.replicate_succ, beN, beN_00 n]; simp

/-- An encoder. -/
structure Enc where
  low : Nat
  size : Nat
  cache : UInt8
  pend : Nat
  out : List UInt8

namespace Enc
def first : Enc := ⟨0, 4294967295, 0, 0, []⟩
def carry (e : Enc) : UInt8 := UInt8.ofNat (e.low / 4294967296)
def goes (e : Enc) : Bool := e.carry == 1 || decide (e.low % 4294967296 < 4278190080)
def shift (e : Enc) : Enc :=
  if e.goes then ⟨e.low % 16777216 * 256, e.size, UInt8.ofNat (e.low / 16777216), 0, e.out ++ (e.cache + e.carry) :: List.replicate e.pend (255 + e.carry)⟩
  else ⟨e.low % 16777216 * 256, e.size, e.cache, e.pend + 1, e.out⟩
def grow (e : Enc) : Enc := { e with size := e.size * 256 }
def widen : Nat → Enc → Enc
  | 0, e => e
  | f + 1, e => if e.size < 16777216 then widen f e.grow.shift else e
def narrow (e : Enc) (a s : Nat) : Enc := { e with low := e.low + a, size := s }
def bound (e : Enc) (p : Nat) : Nat := e.size / 2048 * p
def cut (e : Enc) (p b : Nat) : Enc := if b = 0 then e.narrow 0 (e.bound p) else e.narrow (e.bound p) (e.size - e.bound p)
def bit (e : Enc) (p b : Nat) : Enc := (e.cut p b).widen 4
def half (e : Enc) (b : Nat) : Enc := (e.narrow (if b = 0 then 0 else e.size / 2) (e.size / 2)).widen 4
def part (e : Enc) (start size total : Nat) : Enc := (e.narrow (e.size / total * start) (e.size / total * size)).widen 4
def ended (e : Enc) : List UInt8 := e.shift.shift.shift.shift.shift.out

def n (e : Enc) : Nat := e.out.length + e.pend
def head (e : Enc) : List UInt8 := e.out ++ e.cache :: List.replicate e.pend 255
def val (e : Enc) : Nat := beN e.head * 4294967296 + e.low

theorem head_length (e : Enc) : e.head.length = e.n + 1 := by simp [head, n]; omega

/-- Behind a narrowing. -/
structure Mid (e : Enc) : Prop where
  low : e.low + e.size ≤ 8589934592
  pos : 0 < e.size
  size' : e.size < 4294967296
  full : e.cache = 255 → e.low + e.size ≤ 4294967296

/-- Between two bits. -/
structure Good (e : Enc) : Prop where
  mid : Mid e
  ge : 16777216 ≤ e.size

theorem good_first : Good first := ⟨⟨by decide, by decide, by decide, fun h => by simp [first] at h⟩, by decide⟩

theorem Mid.narrow {e : Enc} (h : Mid e) {a s : Nat} (hs : 0 < s) (ha : a + s ≤ e.size) : Mid (e.narrow a s) := by
  have h1 := h.low
  have h2 := h.size'
  refine ⟨?_, hs, ?_, fun hc => ?_⟩
  · show e.low + a + s ≤ _; omega
  · show s < _; omega
  · have := h.full hc; show e.low + a + s ≤ _; omega

theorem carry_cases {e : Enc} (h : e.low < 8589934592) : e.low < 4294967296 ∧ e.carry = 0 ∨ 4294967296 ≤ e.low ∧ e.carry = 1 := by
  unfold carry
  by_cases hl : e.low < 4294967296
  · refine .inl ⟨hl, ?_⟩; rw [Nat.div_eq_of_lt hl]; rfl
  · refine .inr ⟨by omega, ?_⟩; rw [show e.low / 4294967296 = 1 from by omega]; rfl

theorem mid_low {e : Enc} (h : Mid e) : e.low < 8589934592 := by have := h.low; have := h.pos; omega

theorem shift_n (e : Enc) : e.shift.n = e.n + 1 := by
  unfold shift n
  split <;> simp
  all_goals omega

theorem toNat_top {x : Nat} (h : x < 4294967296) : (UInt8.ofNat (x / 16777216)).toNat = x / 16777216 := by
  rw [UInt8.toNat_ofNat']
  show _ % 256 = _
  omega

theorem toNat_top2 {x : Nat} (h : 4294967296 ≤ x) (h2 : x < 8589934592) : (UInt8.ofNat (x / 16777216)).toNat = (x - 4294967296) / 16777216 := by
  rw [UInt8.toNat_ofNat']
  show _ % 256 = _
  omega

theorem shift_val {e : Enc} (hl : e.low < 8589934592) (hc : 4294967296 ≤ e.low → e.cache ≠ 255) : e.shift.val = e.val * 256 := by
  have hp := beN_ff e.pend
  have hlr : (List.replicate e.pend (255 : UInt8)).length = e.pend := by simp
  have hlr0 : (List.replicate e.pend (0 : UInt8)).length = e.pend := by simp
  rcases carry_cases hl with ⟨h1, h2⟩ | ⟨h1, h2⟩
  · unfold shift goes
    rw [h2]
    by_cases hg : e.low % 4294967296 < 4278190080
    · rw [if_pos (by simp [hg])]
      unfold val head
      dsimp only
      rw [show e.cache + 0 = e.cache from by simp, show (255 : UInt8) + 0 = 255 from rfl, List.replicate_zero, beN_snoc, toNat_top h1]
      omega
    · rw [if_neg (by simp [hg])]
      unfold val head
      dsimp only
      rw [List.replicate_succ', ← List.cons_append, ← List.append_assoc, beN_snoc]
      show (_ * 256 + 255) * _ + _ = _
      omega
  · unfold shift goes
    rw [h2]
    rw [if_pos (by simp)]
    unfold val head
    dsimp only
    have hcc : (e.cache + 1).toNat = e.cache.toNat + 1 := by
      have h3 := hc h1
      have h4 := e.cache.toNat_lt
      have h5 : e.cache.toNat ≠ 255 := fun h => h3 (UInt8.toNat_inj.1 h)
      rw [UInt8.toNat_add]
      show (_ + 1) % 256 = _
      omega
    rw [show (255 : UInt8) + 1 = 0 from rfl, List.replicate_zero, beN_snoc, toNat_top2 h1 hl, beN_append, beN, beN_append e.out (e.cache :: _), beN, beN_00, hcc]
    simp only [List.length_cons, hlr, hlr0]
    rw [Nat.add_mul e.cache.toNat 1, Nat.one_mul]
    generalize beN e.out * 256 ^ (e.pend + 1) = A
    generalize e.cache.toNat * _ = B
    generalize beN (List.replicate e.pend 255) = C at hp ⊢
    generalize 256 ^ e.pend = D at hp ⊢
    omega

theorem shift_size (e : Enc) : e.shift.size = e.size := by unfold shift; split <;> rfl
theorem shift_low (e : Enc) : e.shift.low = e.low % 16777216 * 256 := by unfold shift; split <;> rfl
theorem grow_n (e : Enc) : e.grow.n = e.n := rfl

theorem mid_shift {e : Enc} (h : Mid e) (hs : e.size < 16777216) : Mid e.grow.shift := by
  have h1 := h.low
  have h2 := h.pos
  have hl := mid_low h
  have hll : e.grow.low = e.low := rfl
  have hss : e.grow.size = e.size * 256 := rfl
  refine ⟨?_, ?_, ?_, ?_⟩
  · rw [shift_low, shift_size, hll, hss]; omega
  · rw [shift_size, hss]; omega
  · rw [shift_size, hss]; omega
  · rw [shift_low, shift_size, hll, hss]
    unfold shift
    rcases carry_cases (e := e.grow) hl with ⟨g1, g2⟩ | ⟨g1, g2⟩
    · rw [hll] at g1
      by_cases hg : e.low % 4294967296 < 4278190080
      · rw [if_pos (by unfold goes; rw [hll]; simp [hg])]
        dsimp only
        intro hc
        have := congrArg UInt8.toNat hc
        rw [hll, toNat_top g1] at this
        have e2 : (255 : UInt8).toNat = 255 := rfl
        rw [e2] at this
        omega
      · rw [if_neg (by unfold goes; rw [g2, hll]; simp [hg])]
        dsimp only
        intro hc
        have := h.full hc
        omega
    · rw [hll] at g1
      rw [if_pos (by unfold goes; rw [g2]; simp)]
      dsimp only
      intro hc
      have := congrArg UInt8.toNat hc
      rw [hll, toNat_top2 g1 hl] at this
      have e2 : (255 : UInt8).toNat = 255 := rfl
      rw [e2] at this
      omega

/-- What is coded later lies within what was left. -/
def Within (e e' : Enc) : Prop := ∃ j, e'.n = e.n + j ∧ e.val * 256 ^ j ≤ e'.val ∧ e'.val + e'.size ≤ (e.val + e.size) * 256 ^ j

theorem Within.refl (e : Enc) : Within e e := ⟨0, rfl, by simp, by simp⟩
theorem Within.trans {a b c : Enc} (h : Within a b) (k : Within b c) : Within a c := by
  obtain ⟨i, h1, h2, h3⟩ := h
  obtain ⟨j, k1, k2, k3⟩ := k
  refine ⟨i + j, by omega, ?_, ?_⟩
  · rw [Nat.pow_add, ← Nat.mul_assoc]; exact Nat.le_trans (Nat.mul_le_mul_right _ h2) k2
  · rw [Nat.pow_add, ← Nat.mul_assoc]; exact Nat.le_trans k3 (Nat.mul_le_mul_right _ h3)

theorem mid_carry {e : Enc} (h : Mid e) : 4294967296 ≤ e.low → e.cache ≠ 255 := fun h1 h2 => by have := h.full h2; have := h.pos; omega

theorem grow_shift_val {e : Enc} (h : Mid e) : e.grow.shift.val = e.val * 256 := by
  have := shift_val (e := e.grow) (show e.low < _ from mid_low h) (show _ ≤ e.low → e.cache ≠ 255 from mid_carry h)
  exact this

theorem within_shift {e : Enc} (h : Mid e) : Within e e.grow.shift := by
  refine ⟨1, shift_n _, ?_, ?_⟩
  · rw [grow_shift_val h, Nat.pow_one]; exact Nat.le_refl _
  · rw [grow_shift_val h, shift_size, Nat.pow_one]
    show e.val * 256 + e.size * 256 ≤ _
    omega

theorem mid_widen : ∀ (f : Nat) {e : Enc}, Mid e → Mid (e.widen f) ∧ Within e (e.widen f)
  | 0, e, h => ⟨h, .refl e⟩
  | f + 1, e, h => by
    unfold widen
    split
    · rename_i hs
      obtain ⟨a, b⟩ := mid_widen f (mid_shift h hs)
      exact ⟨a, (within_shift h).trans b⟩
    · exact ⟨h, .refl e⟩

theorem widen_size : ∀ (f : Nat) (e : Enc), 16777216 ≤ e.size * 256 ^ f → 16777216 ≤ (e.widen f).size
  | 0, e, h => by
    unfold widen
    omega
  | f + 1, e, h => by
    unfold widen
    split
    · refine widen_size f _ ?_
      rw [shift_size]
      show _ ≤ e.size * 256 * _
      rw [Nat.mul_assoc, ← Nat.pow_succ']
      exact h
    · rename_i hs; omega

theorem good_widen {e : Enc} (h : Mid e) : Good (e.widen 4) := ⟨(mid_widen 4 h).1, widen_size 4 e (by have := h.pos; omega)⟩

theorem within_narrow {e : Enc} {a s : Nat} (ha : a + s ≤ e.size) : Within e (e.narrow a s) := by
  refine ⟨0, rfl, ?_, ?_⟩
  · show e.val * 1 ≤ beN e.head * 4294967296 + (e.low + a); unfold val; omega
  · show beN e.head * 4294967296 + (e.low + a) + s ≤ (e.val + e.size) * 1; unfold val; omega

theorem step {e : Enc} (h : Good e) {a s : Nat} (hs : 0 < s) (ha : a + s ≤ e.size) : Good ((e.narrow a s).widen 4) ∧ Within e ((e.narrow a s).widen 4) :=
  ⟨good_widen (h.mid.narrow hs ha), (within_narrow ha).trans (mid_widen 4 (h.mid.narrow hs ha)).2⟩

/-- A probability. -/
def okPr (p : Nat) : Prop := 31 ≤ p ∧ p ≤ 2017

theorem bound_ok {e : Enc} (h : Good e) {p : Nat} (hp : okPr p) : 0 < e.bound p ∧ e.bound p < e.size := by
  have h1 := h.ge
  obtain ⟨p1, p2⟩ := hp
  unfold bound
  constructor
  · have : 8192 * 31 ≤ e.size / 2048 * p := Nat.mul_le_mul (by omega) p1
    omega
  · have : e.size / 2048 * p ≤ e.size / 2048 * 2017 := Nat.mul_le_mul_left _ p2
    omega

theorem bit_step {e : Enc} (h : Good e) {p : Nat} (hp : okPr p) (b : Nat) : Good (e.bit p b) ∧ Within e (e.bit p b) := by
  obtain ⟨h1, h2⟩ := bound_ok h hp
  unfold bit cut
  split
  · exact step h h1 (by omega)
  · exact step h (by omega) (by omega)

theorem half_step {e : Enc} (h : Good e) (b : Nat) : Good (e.half b) ∧ Within e (e.half b) := by
  have h1 := h.ge
  unfold half
  refine step h (by omega) ?_
  split <;> omega

/-- All bytes. -/
theorem ended_is {e : Enc} (h : Good e) : beN e.ended = e.val ∧ e.ended.length = e.n + 5 := by
  have hl := mid_low h.mid
  have hc := mid_carry h.mid
  have v1 := shift_val hl hc
  have k : ∀ x : Enc, x.low < 4294967296 → x.shift.val = x.val * 256 := fun x hx => shift_val (by omega) (fun h => by omega)
  have l1 := shift_low e
  have l2 := shift_low e.shift
  have l3 := shift_low e.shift.shift
  have l4 := shift_low e.shift.shift.shift
  have l5 := shift_low e.shift.shift.shift.shift
  have v2 := k e.shift (by omega)
  have v3 := k e.shift.shift (by omega)
  have v4 := k e.shift.shift.shift (by omega)
  have n1 := shift_n e
  have n2 := shift_n e.shift
  have n3 := shift_n e.shift.shift
  have n4 := shift_n e.shift.shift.shift
  have z4 : e.shift.shift.shift.shift.low = 0 := by omega
  unfold ended
  generalize e.shift.shift.shift.shift = x at *
  have hx : x.shift.out = x.head := by
    unfold shift goes carry head
    rw [z4]
    simp
  rw [hx]
  refine ⟨?_, by rw [head_length]; omega⟩
  have : x.val = beN x.head * 4294967296 + 0 := by rw [← z4]; rfl
  omega
end Enc

/-- A decoder: the bytes that are left, what stands in the range, the range, the part that was asked last. -/
structure Dec where
  rest : List UInt8
  code : Nat
  size : Nat
  part : Nat
  bad : Bool

namespace Dec
def next (d : Dec) : Dec := match d.rest with
  | [] => ⟨[], d.code * 256 % 4294967296, d.size, d.part, true⟩
  | b :: l => ⟨l, d.code * 256 % 4294967296 + b.toNat, d.size, d.part, d.bad⟩
def widen : Nat → Dec → Dec
  | 0, d => d
  | f + 1, d => if d.size < 16777216 then widen f { d with size := d.size * 256 }.next else d
def bound (d : Dec) (p : Nat) : Nat := d.size / 2048 * p
def bit (d : Dec) (p : Nat) : Nat × Dec :=
  if d.code < d.bound p then (0, { d with size := d.bound p }.widen 4) else (1, { d with code := d.code - d.bound p, size := d.size - d.bound p }.widen 4)
def half (d : Dec) : Nat × Dec :=
  if d.size / 2 ≤ d.code then (1, { d with code := d.code - d.size / 2, size := d.size / 2 }.widen 4) else (0, { d with size := d.size / 2 }.widen 4)
def take (d : Dec) (start size : Nat) : Dec := { d with code := d.code - d.part * start, size := d.part * size }.widen 4
def start (L : List UInt8) : Dec := match L with
  | [] => ⟨[], 0, 4294967295, 0, true⟩
  | z :: l => let d : Dec := (⟨l, 0, 4294967295, 0, false⟩ : Dec).next.next.next.next
    { d with bad := d.bad || z != 0 }

/-- The decoder that stands where an encoder stood, of whose bytes these are all. -/
def at_ (L : List UInt8) (e : Enc) (part : Nat) : Dec := ⟨L.drop (e.n + 5), beN (L.take (e.n + 5)) - e.val, e.size, part, false⟩
end Dec

open Enc

/-- These bytes lie in what is left of an encoder's range. -/
def Lies (L : List UInt8) (e : Enc) : Prop := ∃ m, L.length = e.n + 5 + m ∧ e.val * 256 ^ m ≤ beN L ∧ beN L < (e.val + e.size) * 256 ^ m

theorem Lies.ended {e : Enc} (h : Good e) : Lies e.ended e := by
  obtain ⟨h1, h2⟩ := ended_is h
  have h3 := h.ge
  exact ⟨0, h2, by rw [h1]; simp, by rw [h1]; simp; omega⟩

theorem Lies.of {L : List UInt8} {e e' : Enc} (h : Lies L e') (k : Within e e') : Lies L e := by
  obtain ⟨m, h1, h2, h3⟩ := h
  obtain ⟨j, k1, k2, k3⟩ := k
  refine ⟨j + m, by omega, ?_, ?_⟩
  · rw [Nat.pow_add, ← Nat.mul_assoc]; exact Nat.le_trans (Nat.mul_le_mul_right _ k2) h2
  · rw [Nat.pow_add, ← Nat.mul_assoc]; exact Nat.lt_of_lt_of_le h3 (Nat.mul_le_mul_right _ k3)

theorem Lies.len {L : List UInt8} {e : Enc} (h : Lies L e) : e.n + 5 ≤ L.length := by obtain ⟨m, h1, _⟩ := h; omega

/-- What a decoder has in its range. -/
theorem Lies.code {L : List UInt8} {e : Enc} (h : Lies L e) : e.val ≤ beN (L.take (e.n + 5)) ∧ beN (L.take (e.n + 5)) < e.val + e.size := by
  obtain ⟨m, h1, h2, h3⟩ := h
  have e1 : beN L = beN (L.take (e.n + 5)) * 256 ^ m + beN (L.drop (e.n + 5)) := by
    have := beN_append (L.take (e.n + 5)) (L.drop (e.n + 5))
    rw [List.take_append_drop, List.length_drop, show L.length - (e.n + 5) = m from by omega] at this
    exact this
  have e2 := beN_lt (L.drop (e.n + 5))
  rw [List.length_drop, show L.length - (e.n + 5) = m from by omega] at e2
  rw [e1] at h2 h3
  have hp : 0 < 256 ^ m := Nat.pow_pos (by omega)
  constructor
  · have : e.val * 256 ^ m < (beN (L.take (e.n + 5)) + 1) * 256 ^ m := by rw [Nat.add_mul, Nat.one_mul]; omega
    have := Nat.lt_of_mul_lt_mul_right this
    omega
  · exact Nat.lt_of_mul_lt_mul_right (Nat.lt_of_le_of_lt (Nat.le_add_right _ _) h3)

theorem sync_next {L : List UInt8} {e : Enc} (h : Mid e) (hs : e.size < 16777216) (hf : Lies L e.grow.shift) (pt : Nat) : ({ Dec.at_ L e pt with size := e.size * 256 } : Dec).next = Dec.at_ L e.grow.shift pt := by
  have hl := hf.len
  rw [shift_n, grow_n] at hl
  have hc := (hf.of (within_shift h)).code
  have hlt : e.n + 5 < L.length := by omega
  unfold Dec.next Dec.at_
  rw [List.drop_eq_getElem_cons hlt]
  dsimp only
  rw [shift_n, grow_n, show e.n + 1 + 5 = e.n + 5 + 1 from by omega, List.take_succ_eq_append_getElem hlt, beN_snoc, grow_shift_val h, shift_size]
  rw [Nat.mod_eq_of_lt (by omega)]
  have e2 : (beN (L.take (e.n + 5)) - e.val) * 256 + L[e.n + 5].toNat = beN (L.take (e.n + 5)) * 256 + L[e.n + 5].toNat - e.val * 256 := by omega
  rw [e2]
  rfl

theorem sync_widen {L : List UInt8} (pt : Nat) : ∀ (f : Nat) {e : Enc}, Mid e → Lies L (e.widen f) → (Dec.at_ L e pt).widen f = Dec.at_ L (e.widen f) pt
  | 0, e, _, _ => rfl
  | f + 1, e, h, hf => by
    unfold Dec.widen
    unfold Enc.widen at hf ⊢
    have hsz : (Dec.at_ L e pt).size = e.size := rfl
    rw [hsz]
    split
    · rename_i hs
      rw [if_pos hs] at hf
      rw [sync_next h hs (hf.of (mid_widen f (mid_shift h hs)).2) pt]
      exact sync_widen pt f (mid_shift h hs) hf
    · rfl

theorem at_narrow {L : List UInt8} {e : Enc} (a s pt : Nat) (hc : e.val + a ≤ beN (L.take (e.n + 5))) : Dec.at_ L (e.narrow a s) pt = ⟨L.drop (e.n + 5), beN (L.take (e.n + 5)) - e.val - a, s, pt, false⟩ := by
  have : (e.narrow a s).val = e.val + a := by show beN e.head * 4294967296 + (e.low + a) = beN e.head * 4294967296 + e.low + a; omega
  unfold Dec.at_
  rw [this]
  simp only [Dec.mk.injEq, and_true]
  exact ⟨rfl, by show beN (L.take (e.n + 5)) - _ = _; omega, rfl⟩

theorem narrow_code {L : List UInt8} {e : Enc} {a s : Nat} (hf : Lies L (e.narrow a s)) : e.val + a ≤ beN (L.take (e.n + 5)) ∧ beN (L.take (e.n + 5)) < e.val + a + s := by
  have hc := hf.code
  have : (e.narrow a s).val = e.val + a := by show beN e.head * 4294967296 + (e.low + a) = beN e.head * 4294967296 + e.low + a; omega
  rw [this] at hc
  exact hc

/-- A narrower range, on either side. -/
theorem sync_narrow {L : List UInt8} {e : Enc} (h : Good e) {a s : Nat} (hs : 0 < s) (ha : a + s ≤ e.size) (hf : Lies L ((e.narrow a s).widen 4)) (pt : Nat) :
    (e.val + a ≤ beN (L.take (e.n + 5)) ∧ beN (L.take (e.n + 5)) < e.val + a + s) ∧ (⟨L.drop (e.n + 5), beN (L.take (e.n + 5)) - e.val - a, s, pt, false⟩ : Dec).widen 4 = Dec.at_ L ((e.narrow a s).widen 4) pt := by
  have hm : Mid (e.narrow a s) := h.mid.narrow hs ha
  have hn := narrow_code (hf.of (mid_widen 4 hm).2)
  refine ⟨hn, ?_⟩
  rw [← sync_widen pt 4 hm hf, at_narrow _ _ _ hn.1]

theorem bit_zero (e : Enc) (p : Nat) : e.bit p 0 = (e.narrow 0 (e.bound p)).widen 4 := by unfold bit cut; rw [if_pos rfl]
theorem bit_one (e : Enc) (p : Nat) : e.bit p 1 = (e.narrow (e.bound p) (e.size - e.bound p)).widen 4 := by unfold bit cut; rw [if_neg (by decide)]
theorem half_zero (e : Enc) : e.half 0 = (e.narrow 0 (e.size / 2)).widen 4 := by unfold half; rw [if_pos rfl]
theorem half_one (e : Enc) : e.half 1 = (e.narrow (e.size / 2) (e.size / 2)).widen 4 := by unfold half; rw [if_neg (by decide)]

theorem dec_bit (r : List UInt8) (c s pt p : Nat) (f : Bool) : (⟨r, c, s, pt, f⟩ : Dec).bit p = if c < s / 2048 * p then (0, (⟨r, c, s / 2048 * p, pt, f⟩ : Dec).widen 4) else (1, (⟨r, c - s / 2048 * p, s - s / 2048 * p, pt, f⟩ : Dec).widen 4) := rfl
theorem dec_half (r : List UInt8) (c s pt : Nat) (f : Bool) : (⟨r, c, s, pt, f⟩ : Dec).half = if s / 2 ≤ c then (1, (⟨r, c - s / 2, s / 2, pt, f⟩ : Dec).widen 4) else (0, (⟨r, c, s / 2, pt, f⟩ : Dec).widen 4) := rfl

/-- What was coded is read, a bit by a probability. -/
theorem sync_bit {L : List UInt8} {e : Enc} (h : Good e) {p : Nat} (hp : okPr p) {b : Nat} (hb : b ≤ 1) (hf : Lies L (e.bit p b)) (pt : Nat) : (Dec.at_ L e pt).bit p = (b, Dec.at_ L (e.bit p b) pt) := by
  obtain ⟨h1, h2⟩ := bound_ok h hp
  unfold Dec.at_
  rw [dec_bit, show e.size / 2048 * p = e.bound p from rfl]
  rcases Nat.le_one_iff_eq_zero_or_eq_one.1 hb with rfl | rfl
  · rw [bit_zero] at hf ⊢
    obtain ⟨k1, k2⟩ := sync_narrow h h1 (by omega) hf pt
    unfold Dec.at_ at k2
    rw [if_pos (by omega), ← k2, Nat.sub_zero]
  · rw [bit_one] at hf ⊢
    obtain ⟨k1, k2⟩ := sync_narrow h (by omega) (by omega) hf pt
    unfold Dec.at_ at k2
    rw [if_neg (by omega), ← k2]

/-- .. a direct bit. -/
theorem sync_half {L : List UInt8} {e : Enc} (h : Good e) {b : Nat} (hb : b ≤ 1) (hf : Lies L (e.half b)) (pt : Nat) : (Dec.at_ L e pt).half = (b, Dec.at_ L (e.half b) pt) := by
  have h1 := h.ge
  unfold Dec.at_
  rw [dec_half]
  rcases Nat.le_one_iff_eq_zero_or_eq_one.1 hb with rfl | rfl
  · rw [half_zero] at hf ⊢
    obtain ⟨k1, k2⟩ := sync_narrow h (by omega) (by omega) hf pt
    unfold Dec.at_ at k2
    rw [if_neg (by omega), ← k2, Nat.sub_zero]
  · rw [half_one] at hf ⊢
    obtain ⟨k1, k2⟩ := sync_narrow h (by omega) (by omega) hf pt
    unfold Dec.at_ at k2
    rw [if_pos (by omega), ← k2]

/-- The decoder's beginning. -/
theorem five (z a b c d : UInt8) (l : List UInt8) : beN ((z :: a :: b :: c :: d :: l).take 5) = z.toNat * 4294967296 + (a.toNat * 16777216 + (b.toNat * 65536 + (c.toNat * 256 + d.toNat))) := by
  show beN [z, a, b, c, d] = _
  simp only [beN, List.length_cons, List.length_nil]
  omega

theorem five_of (L : List UInt8) (h : 5 ≤ L.length) : ∃ z a b c d l, L = z :: a :: b :: c :: d :: l := by
  obtain ⟨z, L, rfl⟩ := List.exists_cons_of_length_pos (show 0 < L.length by omega)
  rw [List.length_cons] at h
  obtain ⟨a, L, rfl⟩ := List.exists_cons_of_length_pos (show 0 < L.length by omega)
  rw [List.length_cons] at h
  obtain ⟨b, L, rfl⟩ := List.exists_cons_of_length_pos (show 0 < L.length by omega)
  rw [List.length_cons] at h
  obtain ⟨c, L, rfl⟩ := List.exists_cons_of_length_pos (show 0 < L.length by omega)
  rw [List.length_cons] at h
  obtain ⟨d, L, rfl⟩ := List.exists_cons_of_length_pos (show 0 < L.length by omega)
  exact ⟨z, a, b, c, d, L, rfl⟩

theorem sync_start {L : List UInt8} (hf : Lies L Enc.first) : Dec.start L = Dec.at_ L Enc.first 0 := by
  have hl := hf.len
  have hc := hf.code.2
  have hn : Enc.first.n = 0 := rfl
  have hv : Enc.first.val = 0 := rfl
  have hz : Enc.first.size = 4294967295 := rfl
  rw [hn] at hl hc
  rw [hv, hz] at hc
  obtain ⟨z, a, b, c, d, l, rfl⟩ := five_of L (by omega)
  have e1 := five z a b c d l
  rw [Nat.zero_add] at hc
  rw [e1] at hc
  have hz0 : z.toNat = 0 := by omega
  have hz1 : z = 0 := UInt8.toNat_inj.1 hz0
  have ha := a.toNat_lt
  have hb := b.toNat_lt
  have hcc := c.toNat_lt
  have hd := d.toNat_lt
  have e2 : ((((0 * 256 % 4294967296 + a.toNat) * 256 % 4294967296 + b.toNat) * 256 % 4294967296 + c.toNat) * 256 % 4294967296 + d.toNat) = z.toNat * 4294967296 + (a.toNat * 16777216 + (b.toNat * 65536 + (c.toNat * 256 + d.toNat))) - 0 := by omega
  unfold Dec.at_
  rw [hn, hv, Nat.zero_add, e1, ← e2, hz1]
  rfl

/-- At the end nothing is left. -/
theorem at_ended {e : Enc} (h : Good e) (pt : Nat) : Dec.at_ e.ended e pt = ⟨[], 0, e.size, pt, false⟩ := by
  obtain ⟨h1, h2⟩ := ended_is h
  unfold Dec.at_
  rw [List.drop_of_length_le (by omega), List.take_of_length_le (by omega), h1, Nat.sub_self]
end Go.Cas
