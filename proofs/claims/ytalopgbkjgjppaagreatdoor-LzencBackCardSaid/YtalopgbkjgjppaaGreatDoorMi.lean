/- The walks of model's put and get: one contract for both. -/
import Derived.Test.YtalopgbkjgjppaaGreatDoorGTr
namespace Go.Proofs.YtalopgbkjgjppaaGreatDoor
open Go.RowKit Go.Cas Go.Cas.Enc

def Cdr.isEnc : Cdr → Bool
  | .enc _ => true
  | .dec _ => false

/-- The coder as a receiver. -/
abbrev recv (x : Nat) : Value := .agg #[.pointer (some ⟨x, 0, none⟩)]

/-- A hint: what is told; it counts for an encoder alone. -/
def Hint (C : Cdr) (h : Nat) (hI : Int) (bound : Nat) : Prop := C.isEnc = true → hI = h ∧ h < bound

theorem StepLeft.box {w w' : World} {x : Nat} {C : Cdr} {F : Nat → Prop} {g : Nat} {cs : Array Value} {t : TypeId} {o : Obj} (h : StepLeft (w.alloc o) w' x C F g cs t) : StepLeft w w' x C F g cs t := by
  obtain ⟨F', h1, h2, h3, h4⟩ := h
  exact ⟨F', h1, ((Keeps.refl (fun k => F k ∨ k = g) w).alloc o).trans h2, fun k hk => (h3 k hk).imp_right fun h => by simp at h; omega, h4⟩

def fnBit (C : Cdr) : Nat := if C.isEnc then 131 else 145
def fnTree (C : Cdr) : Nat := if C.isEnc then 134 else 148
def fnBack (C : Cdr) : Nat := if C.isEnc then 130 else 144
def fnLike (C : Cdr) : Nat := if C.isEnc then 133 else 147
def fnDirect (C : Cdr) : Nat := if C.isEnc then 132 else 146

set_option maxHeartbeats 2000000 in
theorem m_bit (x g o p h : Nat) (hI : Int) (C : Cdr) (F : Nat → Prop) (cs : Array Value) (t : TypeId) (w : World) (hC : CM x C F w) (hok : C.ok) (hn : C.n ≤ 1000000000) (hh : Hint C h hI 2)
    (hp : okPr p) (hB : Blk w g cs t) (hco : cs[o]? = some (v16 p)) (hge : ¬ F g) :
    Calls Tryz.prog (fnBit C) #[recv x, .pointer (some ⟨g, o, none⟩), .int .i64 hI] w fun z w' => z = .returned (i6 (C.bit p h).1) ∧ StepLeft w w' x (C.bit p h).2 F g (cs.setIfInBounds o (v16 (learnP p (C.bit p h).1))) t := by
  cases C with
  | enc E =>
    obtain ⟨q, cap, hE, rfl⟩ := hC
    obtain ⟨rfl, hb⟩ := hh rfl
    have H := hid (fun w0 hE0 hB0 => ebit_any x cap E q g o p h cs t w0 hE0 hok hn hp (by omega) hB0 hco hge)
    have HA := hid (And.intro hE hB)
    show Calls Tryz.prog 131 _ w _
    clear hE hok hp hB hco hh hge
    go_enter Tryz.func131, Tryz.ntmps131
    go_wp2_with fail
    refine (H.out _ (HA.out.1.keeps (S := fun _ => False) ((Keeps.refl _ _).alloc _) (fun _ _ h => h)) (HA.out.2.alloc _)).mono ?_
    rintro z w2 ⟨rfl, h2⟩
    have H2 := hid h2.box
    clear h2
    go_wp2_with fail
    go_ret
    exact ⟨rfl, H2.out⟩
  | dec D =>
    obtain ⟨hD, rfl⟩ := hC
    have H := hid (fun w0 hD0 hB0 => dbit_any x D g o p cs t w0 hD0 hok hp hB0 hco hge)
    have HA := hid (And.intro hD hB)
    show Calls Tryz.prog 145 _ w _
    clear hD hok hp hB hco hh hge
    go_enter Tryz.func145, Tryz.ntmps145
    go_wp2_with fail
    refine (H.out _ (HA.out.1.alloc _) (HA.out.2.alloc _)).mono ?_
    rintro z w2 ⟨rfl, h2⟩
    have H2 := hid h2.box
    clear h2
    go_wp2_with fail
    go_ret
    exact ⟨rfl, H2.out⟩

/-- What a tree tells, whichever way. -/
def Cdr.tree (C : Cdr) (n h : Nat) (f : Nat → Nat) : Nat × Cdr × (Nat → Nat) := ((treeR h n 1 C f).1 - 2 ^ n, (treeR h n 1 C f).2)
def Cdr.back (C : Cdr) (n h : Nat) (f : Nat → Nat) : Nat × Cdr × (Nat → Nat) := backR h n 0 1 0 C f
def Cdr.like (C : Cdr) (h other : Nat) (f : Nat → Nat) : Nat × Cdr × (Nat → Nat) := ((likeR h 8 1 256 other C f).1 % 256, (likeR h 8 1 256 other C f).2)

theorem pow_step (v m n : Nat) : (2 * m + v / 2 ^ n % 2) * 2 ^ n + v % 2 ^ n = m * 2 ^ (n + 1) + v % 2 ^ (n + 1) := by
  rw [Nat.pow_succ, Nat.mod_mul]
  generalize v / 2 ^ n % 2 = b
  generalize v % 2 ^ n = r
  generalize 2 ^ n = k
  rw [Nat.add_mul, show 2 * m * k = m * (k * 2) from by rw [Nat.mul_comm 2 m, Nat.mul_assoc, Nat.mul_comm 2 k], Nat.mul_comm b k]
  omega

theorem treeR_enc (v : Nat) : ∀ n m E f, (treeR v n m (.enc E) f).1 = m * 2 ^ n + v % 2 ^ n
  | 0, m, E, f => by show m = m * 1 + v % 1; omega
  | n + 1, m, E, f => by
    rw [treeR, ← pow_step]
    exact treeR_enc v n _ _ _

theorem likeR_enc (v : Nat) : ∀ n m hf ot E f, (likeR v n m hf ot (.enc E) f).1 = m * 2 ^ n + v % 2 ^ n
  | 0, m, _, _, E, f => by show m = m * 1 + v % 1; omega
  | n + 1, m, hf, ot, E, f => by
    rw [likeR, ← pow_step]
    exact likeR_enc v n _ _ _ _ _

theorem backR_enc (v : Nat) : ∀ k i m acc E f, (backR v k i m acc (.enc E) f).1 = acc + v / 2 ^ i % 2 ^ k * 2 ^ i
  | 0, i, m, acc, E, f => by show acc = acc + _ % 1 * _; rw [Nat.mod_one]; omega
  | k + 1, i, m, acc, E, f => by
    rw [backR]
    show (backR v k (i + 1) _ (acc + v / 2 ^ i % 2 * 2 ^ i) (.enc _) _).1 = _
    rw [backR_enc v k, Nat.pow_succ 2 k, Nat.mul_comm (2 ^ k) 2, Nat.mod_mul, Nat.div_div_eq_div_mul, ← Nat.pow_succ]
    generalize v / 2 ^ (i + 1) % 2 ^ k = c
    generalize v / 2 ^ i % 2 = b
    rw [Nat.pow_succ, Nat.add_mul]
    generalize 2 ^ i = z
    rw [Nat.mul_comm z 2, ← Nat.mul_assoc c 2 z, Nat.mul_comm c 2]
    omega

theorem tree_enc {v n : Nat} (h : v < 2 ^ n) (E : Enc) (f : Nat → Nat) : ((Cdr.enc E).tree n v f).1 = v := by
  show (treeR v n 1 (.enc E) f).1 - 2 ^ n = v
  rw [treeR_enc, Nat.mod_eq_of_lt h]; omega
theorem back_enc {v n : Nat} (h : v < 2 ^ n) (E : Enc) (f : Nat → Nat) : ((Cdr.enc E).back n v f).1 = v := by
  show (backR v n 0 1 0 (.enc E) f).1 = v
  rw [backR_enc, Nat.pow_zero, Nat.div_one, Nat.mod_eq_of_lt h]; omega
theorem like_enc {v other : Nat} (h : v < 256) (E : Enc) (f : Nat → Nat) : ((Cdr.enc E).like v other f).1 = v := by
  show (likeR v 8 1 256 other (.enc E) f).1 % 256 = v
  rw [likeR_enc]; omega
theorem dir_enc1 (v : Nat) : ∀ n acc E, (Cdr.dir v n acc (.enc E)).1 = acc * 2 ^ n + v % 2 ^ n
  | 0, acc, E => by show acc = acc * 1 + v % 1; omega
  | n + 1, acc, E => by
    rw [Cdr.dir, ← pow_step]
    exact dir_enc1 v n _ _

def TreeCall (w w' : World) (z : Ending) (x : Nat) (F : Nat → Prop) (g N : Nat) (v : Value) (r : Cdr × (Nat → Nat)) : Prop := z = .returned v ∧ StepLeft w w' x r.1 F g (rowP r.2 N) T16

theorem dec_tree_ge (v : Nat) : ∀ n m C f, m * 2 ^ n ≤ (treeR v n m C f).1
  | 0, m, C, f => by show m * 1 ≤ m; omega
  | n + 1, m, C, f => by
    rw [treeR]
    refine Nat.le_trans ?_ (dec_tree_ge v n _ _ _)
    rw [Nat.pow_succ, Nat.mul_comm (2 ^ n) 2, ← Nat.mul_assoc, Nat.mul_comm m 2]
    exact Nat.mul_le_mul_right _ (Nat.le_add_right _ _)

set_option maxHeartbeats 2000000 in
theorem m_tree (x g n N h cap : Nat) (hI : Int) (C : Cdr) (F : Nat → Prop) (f : Nat → Nat) (w : World) (hC : CM x C F w) (hok : C.ok) (hn : C.n ≤ 100000000) (hn16 : n ≤ 16) (hN : 2 ^ n ≤ N) (hh : Hint C h hI (2 ^ n))
    (hB : Blk w g (rowP f N) T16) (ht : TreeOk f N) (hge : ¬ F g) :
    Calls Tryz.prog (fnTree C) #[recv x, .slice (some ⟨g, 0, none⟩) (2 ^ n) cap, .int .i64 hI] w fun z w' => TreeCall w w' z x F g N (i6 (C.tree n h f).1) (C.tree n h f).2 := by
  obtain ⟨L, hL⟩ : ∃ L, 2 ^ n = L := ⟨_, rfl⟩
  have hL2 : L ≤ 65536 := by rw [← hL]; exact Nat.pow_le_pow_right (by decide) hn16
  cases C with
  | enc E =>
    obtain ⟨q, cap0, hE, rfl⟩ := hC
    obtain ⟨rfl, hb⟩ := hh rfl
    have H := hid (fun w0 hE0 hB0 => tput_any x cap0 E q g n N h cap f w0 hE0 hok hn16 hN (by have : E.n ≤ 100000000 := hn; omega) (by omega) hB0 ht hge)
    rw [hL] at H
    have HA := hid (And.intro hE hB)
    have HV := hid (tree_enc hb E f)
    show Calls Tryz.prog 134 _ w _
    rw [hL]
    clear hE hok hB hh hge ht hN hb
    go_enter Tryz.func134, Tryz.ntmps134
    go_wp2_with fail
    refine (H.out _ (HA.out.1.keeps (S := fun _ => False) ((Keeps.refl _ _).alloc _) (fun _ _ h => h)) (HA.out.2.alloc _)).mono ?_
    rintro z w2 ⟨rfl, h2⟩
    have H2 := hid h2.box
    clear h2
    go_wp2_with fail
    go_ret
    exact ⟨by rw [HV.out]; rfl, H2.out⟩
  | dec D =>
    obtain ⟨hD, rfl⟩ := hC
    have H := hid (fun w0 hD0 hB0 => tget_any x D g n N h cap f w0 hD0 hok hn16 hN hB0 ht hge)
    have hv : ((treeR h n 1 (.dec D) f).1 : Int) - 2 ^ n = (((Cdr.dec D).tree n h f).1 : Int) := by
      show _ = (((treeR h n 1 (.dec D) f).1 - 2 ^ n : Nat) : Int)
      have h1 := dec_tree_ge h n 1 (.dec D) f
      rw [Nat.one_mul] at h1
      have e1 : ((2 : Int) ^ n) = ((2 ^ n : Nat) : Int) := by push_cast; rfl
      rw [e1]
      omega
    rw [hv, hL] at H
    have HA := hid (And.intro hD hB)
    show Calls Tryz.prog 148 _ w _
    rw [hL]
    clear hD hok hB hh hge ht hN
    go_enter Tryz.func148, Tryz.ntmps148
    go_wp2_with fail
    refine (H.out _ (HA.out.1.alloc _) (HA.out.2.alloc _)).mono ?_
    rintro z w2 ⟨rfl, h2⟩
    have H2 := hid h2.box
    clear h2
    go_wp2_with fail
    go_ret
    exact ⟨rfl, H2.out⟩

set_option maxHeartbeats 2000000 in
theorem m_back (x g n N h cap : Nat) (hI : Int) (C : Cdr) (F : Nat → Prop) (f : Nat → Nat) (w : World) (hC : CM x C F w) (hok : C.ok) (hn : C.n ≤ 100000000) (hn16 : n ≤ 16) (hN : 2 ^ n ≤ N) (hh : Hint C h hI (2 ^ n))
    (hB : Blk w g (rowP f N) T16) (ht : TreeOk f N) (hge : ¬ F g) :
    Calls Tryz.prog (fnBack C) #[recv x, .slice (some ⟨g, 0, none⟩) (2 ^ n) cap, .int .i64 hI] w fun z w' => TreeCall w w' z x F g N (i6 (C.back n h f).1) (C.back n h f).2 := by
  obtain ⟨L, hL⟩ : ∃ L, 2 ^ n = L := ⟨_, rfl⟩
  have hL2 : L ≤ 65536 := by rw [← hL]; exact Nat.pow_le_pow_right (by decide) hn16
  cases C with
  | enc E =>
    obtain ⟨q, cap0, hE, rfl⟩ := hC
    obtain ⟨rfl, hb⟩ := hh rfl
    have H := hid (fun w0 hE0 hB0 => tputb_any x cap0 E q g n N h cap f w0 hE0 hok hn16 hN (by have : E.n ≤ 100000000 := hn; omega) (by omega) hB0 ht hge)
    rw [hL] at H
    have HA := hid (And.intro hE hB)
    have HV := hid (back_enc hb E f)
    show Calls Tryz.prog 130 _ w _
    rw [hL]
    clear hE hok hB hh hge ht hN hb
    go_enter Tryz.func130, Tryz.ntmps130
    go_wp2_with fail
    refine (H.out _ (HA.out.1.keeps (S := fun _ => False) ((Keeps.refl _ _).alloc _) (fun _ _ h => h)) (HA.out.2.alloc _)).mono ?_
    rintro z w2 ⟨rfl, h2⟩
    have H2 := hid h2.box
    clear h2
    go_wp2_with fail
    go_ret
    exact ⟨by rw [HV.out]; rfl, H2.out⟩
  | dec D =>
    obtain ⟨hD, rfl⟩ := hC
    have H := hid (fun w0 hD0 hB0 => tgetb_any x D g n N h cap f w0 hD0 hok hn16 hN hB0 ht hge)
    rw [hL] at H
    have HA := hid (And.intro hD hB)
    show Calls Tryz.prog 144 _ w _
    rw [hL]
    clear hD hok hB hh hge ht hN
    go_enter Tryz.func144, Tryz.ntmps144
    go_wp2_with fail
    refine (H.out _ (HA.out.1.alloc _) (HA.out.2.alloc _)).mono ?_
    rintro z w2 ⟨rfl, h2⟩
    have H2 := hid h2.box
    clear h2
    go_wp2_with fail
    go_ret
    exact ⟨rfl, H2.out⟩

set_option maxHeartbeats 2000000 in
theorem m_like (x g N cap : Nat) (h other : UInt8) (C : Cdr) (F : Nat → Prop) (f : Nat → Nat) (w : World) (hC : CM x C F w) (hok : C.ok) (hn : C.n ≤ 100000000) (hN : 768 ≤ N) (hN2 : N ≤ 65536)
    (hB : Blk w g (rowP f N) T16) (ht : TreeOk f N) (hge : ¬ F g) :
    Calls Tryz.prog (fnLike C) #[recv x, .slice (some ⟨g, 0, none⟩) N cap, b8 h, b8 other] w fun z w' => TreeCall w w' z x F g N (b8 (UInt8.ofNat (C.like h.toNat other.toNat f).1)) (C.like h.toNat other.toNat f).2 := by
  cases C with
  | enc E =>
    obtain ⟨q, cap0, hE, rfl⟩ := hC
    have H := hid (fun w0 hE0 hB0 => tputl_any x cap0 E q g N cap h other f w0 hE0 hok (by have : E.n ≤ 100000000 := hn; omega) hN hN2 hB0 ht hge)
    have HA := hid (And.intro hE hB)
    have HV := hid (like_enc (other := other.toNat) h.toNat_lt E f)
    show Calls Tryz.prog 133 _ w _
    clear hE hok hB hge ht
    go_enter Tryz.func133, Tryz.ntmps133
    go_wp2_with fail
    refine (H.out _ (HA.out.1.keeps (S := fun _ => False) ((Keeps.refl _ _).alloc _) (fun _ _ h => h)) (HA.out.2.alloc _)).mono ?_
    rintro z w2 ⟨rfl, h2⟩
    have H2 := hid h2.box
    clear h2
    go_wp2_with fail
    go_ret
    exact ⟨by rw [HV.out, UInt8.ofNat_toNat]; rfl, H2.out⟩
  | dec D =>
    obtain ⟨hD, rfl⟩ := hC
    have H := hid (fun w0 hD0 hB0 => tgetl_any x D g N cap h.toNat other f w0 hD0 hok hN hN2 hB0 ht hge)
    have hv : UInt8.ofNat (likeR h.toNat 8 1 256 other.toNat (.dec D) f).1 = UInt8.ofNat ((Cdr.dec D).like h.toNat other.toNat f).1 := by
      show _ = UInt8.ofNat ((likeR h.toNat 8 1 256 other.toNat (.dec D) f).1 % 256)
      apply UInt8.toNat_inj.1
      rw [UInt8.toNat_ofNat', UInt8.toNat_ofNat']
      show _ % 256 = _ % 256 % 256
      omega
    rw [hv] at H
    have HA := hid (And.intro hD hB)
    show Calls Tryz.prog 147 _ w _
    clear hD hok hB hge ht hv
    go_enter Tryz.func147, Tryz.ntmps147
    go_wp2_with fail
    refine (H.out _ (HA.out.1.alloc _) (HA.out.2.alloc _)).mono ?_
    rintro z w2 ⟨rfl, h2⟩
    have H2 := hid h2.box
    clear h2
    go_wp2_with fail
    go_ret
    exact ⟨rfl, H2.out⟩

def DirLeft (w w' : World) (x : Nat) (C : Cdr) (F : Nat → Prop) : Prop := ∃ F', CM x C F' w' ∧ Keeps F w w' ∧ ∀ k, F' k → F k ∨ w.heap.size ≤ k
theorem DirLeft.box {w w' : World} {x : Nat} {C : Cdr} {F : Nat → Prop} {o : Obj} (h : DirLeft (w.alloc o) w' x C F) : DirLeft w w' x C F := by
  obtain ⟨F', h1, h2, h3⟩ := h
  exact ⟨F', h1, ((Keeps.refl F w).alloc o).trans h2, fun k hk => (h3 k hk).imp_right fun h => by simp at h; omega⟩

set_option maxHeartbeats 2000000 in
theorem m_direct (x n h : Nat) (hI : Int) (C : Cdr) (F : Nat → Prop) (w : World) (hC : CM x C F w) (hok : C.ok) (hn : C.n ≤ 100000000) (hn32 : n ≤ 32) (hh : Hint C h hI (2 ^ n)) :
    Calls Tryz.prog (fnDirect C) #[recv x, .int .u32 hI, i6 n] w fun z w' => z = .returned (v32 (Cdr.dir h n 0 C).1) ∧ DirLeft w w' x (Cdr.dir h n 0 C).2 F := by
  cases C with
  | enc E =>
    obtain ⟨q, cap0, hE, rfl⟩ := hC
    obtain ⟨rfl, hb⟩ := hh rfl
    have hb2 : h < 2 ^ 32 := Nat.lt_of_lt_of_le hb (Nat.pow_le_pow_right (by decide) hn32)
    have H := hid (fun w0 hE0 => edirect_any x cap0 E q h n w0 hE0 hok (by have : E.n ≤ 100000000 := hn; omega) (by omega) hn32)
    have HA := hid hE
    have HV : Hid ((Cdr.dir h n 0 (.enc E)).1 = h) := hid (by rw [dir_enc1, Nat.mod_eq_of_lt hb]; omega)
    show Calls Tryz.prog 132 _ w _
    clear hE hok hh hb hb2
    go_enter Tryz.func132, Tryz.ntmps132
    go_wp2_with fail
    refine (H.out _ (HA.out.keeps (S := fun _ => False) ((Keeps.refl _ _).alloc _) (fun _ _ h => h))).mono ?_
    rintro z w2 ⟨rfl, h2⟩
    have H2 := hid (DirLeft.box h2)
    clear h2
    go_wp2_with fail
    go_ret
    exact ⟨by rw [HV.out]; rfl, H2.out⟩
  | dec D =>
    obtain ⟨hD, rfl⟩ := hC
    have H := hid (fun w0 hD0 => ddirect_any x D h n w0 hD0 hok hn32)
    have HA := hid hD
    show Calls Tryz.prog 146 _ w _
    clear hD hok hh
    go_enter Tryz.func146, Tryz.ntmps146
    go_wp2_with fail
    refine (H.out _ (HA.out.alloc _)).mono ?_
    rintro z w2 ⟨rfl, F', h2, h3, h4⟩
    have H2 := hid (DirLeft.box ⟨F', h2, h3, fun k hk => .inl (h4 k hk)⟩)
    clear h2 h3 h4
    go_wp2_with fail
    go_ret
    exact ⟨rfl, H2.out⟩
end Go.Proofs.YtalopgbkjgjppaaGreatDoor
