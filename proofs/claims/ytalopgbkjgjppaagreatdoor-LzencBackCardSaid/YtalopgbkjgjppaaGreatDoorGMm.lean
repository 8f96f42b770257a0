/- Part of a proof: Mm, Mf. -/
import Derived.Test.YtalopgbkjgjppaaGreatDoorSt
/- What a model is in memory. -/
namespace Go.Proofs.YtalopgbkjgjppaaGreatDoor
open Go.RowKit Go.Cas Go.Cas.Enc

/-- Probabilities: of each block, of each place in it. -/
abbrev Prb := Nat → Nat → Nat
def Prb.row (P : Prb) (i : Nat) (f : Nat → Nat) : Prb := fun a => if a = i then f else P a
theorem Prb.row_same (P : Prb) (i : Nat) (f : Nat → Nat) : P.row i f i = f := if_pos rfl
theorem Prb.row_other (P : Prb) {i j : Nat} (f : Nat → Nat) (h : j ≠ i) : P.row i f j = P j := if_neg h

/-- Where a model's blocks lie; its params. 0: the model; 1, 2: its lengths; 3 to 6: slots; 7 to 20: special; 21: align; 22 to 85: near; 86, 87: far; from 88 on: literals. -/
structure Lay where
  φ : Nat → Nat
  lb : Nat
  lcap : Nat
  wb : Nat
  lc : Nat
  lp : Nat
  pb : Nat
  most : Nat

def Lay.cnt (L : Lay) : Nat := 2 ^ (L.lc + L.lp)
def Lay.used (L : Lay) (i : Nat) : Prop := i < 88 + L.cnt ∧ ¬ (7 ≤ i ∧ i < 11)
def tsz (i : Nat) : Nat := if i < 7 then 64 else if i < 21 then 2 ^ ((i - 7) / 2 - 1) else if i = 21 then 16 else if i < 86 then 8 else if i < 88 then 256 else 1024
def Lay.tree (L : Lay) (i : Nat) : Value := .slice (some ⟨L.φ i, 0, none⟩) (tsz i) (tsz i)

structure MSt where
  st : Nat
  r0 : Int
  r1 : Int
  r2 : Int
  r3 : Int
  text : List UInt8

def mcell (L : Lay) (S : MSt) (f : Nat → Nat) (o : Nat) : Value :=
  if 10 ≤ o ∧ o < 442 then v16 (f o) else
  if o = 0 then i6 L.lc else if o = 1 then i6 L.lp else if o = 2 then i6 L.pb else if o = 3 then i6 L.most else if o = 4 then .pointer (some ⟨L.wb, 0, none⟩) else if o = 5 then i6 S.st else
  if o = 6 then i6 S.r0 else if o = 7 then i6 S.r1 else if o = 8 then i6 S.r2 else if o = 9 then i6 S.r3 else
  if o = 442 then .slice (some ⟨L.lb, 0, none⟩) L.cnt L.lcap else if o < 447 then L.tree (o - 440) else if o < 451 then .slice none 0 0 else if o < 461 then L.tree (o - 440) else if o = 461 then L.tree 21 else .pointer (some ⟨L.φ (o - 461), 0, none⟩)

def lcell (L : Lay) (t : Nat) (f : Nat → Nat) (o : Nat) : Value := if o < 2 then v16 (f o) else if o < 34 then L.tree (22 + t * 32 + (o - 2)) else L.tree (86 + t)

def rowV (f : Nat → Value) (N : Nat) : Array Value := ((List.range N).map f).toArray
theorem rowV_get (f : Nat → Value) {N j : Nat} (hj : j < N) : (rowV f N)[j]? = some (f j) := by simp [rowV, hj]
theorem rowV_set (f f' : Nat → Value) (N j : Nat) (v : Value) (h1 : f' j = v) (h2 : ∀ k, k ≠ j → f' k = f k) : (rowV f N).setIfInBounds j v = rowV f' N := by
  apply Array.ext_getElem?
  intro i
  rw [Array.getElem?_setIfInBounds]
  by_cases hi : i < N
  · rw [rowV_get _ hi]
    split
    · rename_i e; subst e
      simp [rowV, hi, h1]
    · rename_i e
      rw [rowV_get _ hi, h2 i (fun h => e h.symm)]
  · have h1 : (rowV f N)[i]? = none := by simp [rowV]; omega
    have h2 : (rowV f' N)[i]? = none := by simp [rowV]; omega
    rw [h2]
    split
    · rename_i e; subst e
      simp [rowV]; omega
    · exact h1

def cellsOf (L : Lay) (S : MSt) (f : Nat → Nat) (i : Nat) : Array Value := if i = 0 then rowV (mcell L S f) 464 else if i ≤ 2 then rowV (lcell L (i - 1) f) 35 else rowP f (tsz i)
def typOf (i : Nat) : TypeId := if i = 0 then 132 else if i ≤ 2 then 174 else T16
def okRow (f : Nat → Nat) (i : Nat) : Prop := if i = 0 then ∀ o, 10 ≤ o → o < 442 → okPr (f o) else if i ≤ 2 then ∀ o, o < 2 → okPr (f o) else TreeOk f (tsz i)

structure MM (w : World) (L : Lay) (S : MSt) (P : Prb) (q : Option Addr) (cap : Nat) : Prop where
  blk : ∀ i, L.used i → Blk w (L.φ i) (cellsOf L S (P i) i) (typOf i)
  lit : ∀ a, a < L.cnt → w.cell? ⟨L.lb, a, none⟩ = some (L.tree (88 + a))
  lbl : L.lb < w.heap.size
  win : Win w L.wb L.most S.text q cap
  beh : Behind w
  inj : ∀ i j, L.used i → L.used j → L.φ i = L.φ j → i = j
  nlb : ∀ i, L.used i → L.φ i ≠ L.lb
  nwin : ∀ i, L.used i → ¬ winF L.wb q (L.φ i)
  nwl : ¬ winF L.wb q L.lb
  n0 : (∀ i, L.used i → L.φ i ≠ 0) ∧ L.lb ≠ 0 ∧ ¬ winF L.wb q 0
  ok : ∀ i, L.used i → okRow (P i) i
  par : L.lc + L.lp ≤ 4 ∧ L.pb ≤ 4 ∧ S.st < 12 ∧ S.text.length ≤ 100000000

/-- The blocks of a model. -/
def MF (L : Lay) (q : Option Addr) (b : Nat) : Prop := (∃ i, L.used i ∧ L.φ i = b) ∨ b = L.lb ∨ winF L.wb q b

theorem MM.lt {w : World} {L : Lay} {S : MSt} {P : Prb} {q : Option Addr} {cap : Nat} (h : MM w L S P q cap) : ∀ b, MF L q b → b < w.heap.size := by
  rintro b (⟨i, hi, rfl⟩ | rfl | hb)
  · exact (h.blk i hi).lt
  · exact h.lbl
  · rcases hb with rfl | hb
    · exact h.win.blk.lt
    · exact (h.win.own.lt b (by rw [ownBlock_slice]; exact hb)).2

/-- All is as it was, but for one block of probabilities, and blocks of others. -/
theorem MM.step {w w' : World} {L : Lay} {S : MSt} {P : Prb} {q : Option Addr} {cap i : Nat} {f : Nat → Nat} {F : Nat → Prop} (h : MM w L S P q cap) (hu : L.used i) (hK : Keeps (fun k => F k ∨ k = L.φ i) w w')
    (hF : ∀ b, F b → ¬ MF L q b) (hF0 : ¬ F 0) (hB : Blk w' (L.φ i) (cellsOf L S f i) (typOf i)) (hok : okRow f i) : MM w' L S (P.row i f) q cap := by
  have hl : ¬ (F L.lb ∨ L.lb = L.φ i) := fun e => by
    rcases e with e | e
    · exact hF _ e (.inr (.inl rfl))
    · exact h.nlb i hu e.symm
  have hw : ∀ b, winF L.wb q b → ¬ (F b ∨ b = L.φ i) := fun b hb e => by
    rcases e with e | e
    · exact hF _ e (.inr (.inr hb))
    · subst e; exact h.nwin i hu hb
  refine ⟨fun j hj => ?_, fun a ha => ?_, Nat.lt_of_lt_of_le h.lbl hK.size, h.win.keeps hK hw, h.beh.keeps hK ?_, h.inj, h.nlb, h.nwin, h.nwl, h.n0, fun j hj => ?_, h.par⟩
  · by_cases e : j = i
    · subst e; rw [Prb.row_same]; exact hB
    · rw [Prb.row_other _ _ e]
      refine (h.blk j hj).keeps hK fun e' => ?_
      rcases e' with e' | e'
      · exact hF _ e' (.inl ⟨j, hj, rfl⟩)
      · exact e (h.inj j i hj hu e')
  · exact (hK.cell (p := ⟨L.lb, a, none⟩) h.lbl hl).trans (h.lit a ha)
  · intro e
    rcases e with e | e
    · exact hF0 e
    · exact h.n0.1 i hu e.symm
  · by_cases e : j = i
    · subst e; rw [Prb.row_same]; exact hok
    · rw [Prb.row_other _ _ e]; exact h.ok j hj

/-- A step that turns no block of it. -/
theorem MM.keeps {w w' : World} {L : Lay} {S : MSt} {P : Prb} {q : Option Addr} {cap : Nat} {F : Nat → Prop} (h : MM w L S P q cap) (hK : Keeps F w w') (hF : ∀ b, F b → ¬ MF L q b) (hF0 : ¬ F 0) : MM w' L S P q cap :=
  ⟨fun j hj => (h.blk j hj).keeps hK fun e => hF _ e (.inl ⟨j, hj, rfl⟩), fun a ha => (hK.cell (p := ⟨L.lb, a, none⟩) h.lbl (fun e => hF _ e (.inr (.inl rfl)))).trans (h.lit a ha), Nat.lt_of_lt_of_le h.lbl hK.size,
    h.win.keeps hK fun b hb e => hF _ e (.inr (.inr hb)), h.beh.keeps hK hF0, h.inj, h.nlb, h.nwin, h.nwl, h.n0, h.ok, h.par⟩

/-- A model and a coder. -/
structure MC (w : World) (L : Lay) (S : MSt) (P : Prb) (q : Option Addr) (cap : Nat) (x : Nat) (C : Cdr) (F : Nat → Prop) : Prop where
  mm : MM w L S P q cap
  cm : CM x C F w
  ok : C.ok
  dis : ∀ b, F b → ¬ MF L q b
  f0 : ¬ F 0

theorem MC.keeps {w w' : World} {L : Lay} {S : MSt} {P : Prb} {q : Option Addr} {cap : Nat} {x : Nat} {C : Cdr} {F G : Nat → Prop} (h : MC w L S P q cap x C F) (k : Keeps G w w') (hn : ∀ b, MF L q b ∨ F b ∨ b = 0 → ¬ G b) : MC w' L S P q cap x C F :=
  ⟨h.mm.keeps k (fun b hb e => hn b (.inl e) hb) (hn 0 (.inr (.inr rfl))), h.cm.keeps k (fun b hb => hn b (.inr (.inl hb))), h.ok, h.dis, h.f0⟩
theorem MC.same {w w' : World} {L : Lay} {S : MSt} {P : Prb} {q : Option Addr} {cap : Nat} {x : Nat} {C : Cdr} {F : Nat → Prop} (h : MC w L S P q cap x C F) (k : Same w w') : MC w' L S P q cap x C F := h.keeps k fun _ _ h => h

/-- What coding leaves. -/
def Coded (w w' : World) (L : Lay) (S : MSt) (q : Option Addr) (cap : Nat) (x : Nat) (F : Nat → Prop) (s : Cdr × Prb) : Prop :=
  ∃ F', MC w' L S s.2 q cap x s.1 F' ∧ Keeps (fun b => (∃ i, L.used i ∧ L.φ i = b) ∨ F b) w w' ∧ ∀ b, F' b → F b ∨ w.heap.size ≤ b

theorem Coded.trans {w w' w'' : World} {L : Lay} {S : MSt} {q : Option Addr} {cap : Nat} {x : Nat} {F F' : Nat → Prop} {s : Cdr × Prb} (hK : Keeps (fun b => (∃ i, L.used i ∧ L.φ i = b) ∨ F b) w w') (hG : ∀ b, F' b → F b ∨ w.heap.size ≤ b)
    (h : Coded w' w'' L S q cap x F' s) : Coded w w'' L S q cap x F s := by
  obtain ⟨F2, h1, h2, h3⟩ := h
  refine ⟨F2, h1, hK.trans' h2 ?_, fun k hk => ?_⟩
  · rintro b hb (hf | hf)
    · exact .inl hf
    · exact .inr ((hG b hf).resolve_right (by omega))
  · rcases h3 k hk with h | h
    · exact hG k h
    · exact .inr (Nat.le_trans hK.size h)

/-- A step of the coder at a block of the model. -/
theorem MC.coded {w w' : World} {L : Lay} {S : MSt} {P : Prb} {q : Option Addr} {cap : Nat} {x i : Nat} {C C' : Cdr} {F : Nat → Prop} {f : Nat → Nat} {cs : Array Value} {t : TypeId} (h : MC w L S P q cap x C F) (hu : L.used i)
    (hs : StepLeft w w' x C' F (L.φ i) cs t) (hcs : cs = cellsOf L S f i) (ht : t = typOf i) (hok : okRow f i) (hc : C'.ok) : Coded w w' L S q cap x F (C', P.row i f) := by
  obtain ⟨F', h1, h2, h3, h4⟩ := hs
  subst hcs ht
  refine ⟨F', ⟨h.mm.step hu h2 h.dis h.f0 h4 hok, h1, hc, fun b hb e => ?_, fun e => ?_⟩, h2.mono fun b _ hb => hb.elim .inr fun e => .inl ⟨i, hu, e.symm⟩, h3⟩
  · rcases h3 b hb with hf | hf
    · exact h.dis b hf e
    · have := h.mm.lt b e; omega
  · rcases h3 0 e with hf | hf
    · exact h.f0 hf
    · have := h.mm.beh.1; omega

theorem MC.nf {w : World} {L : Lay} {S : MSt} {P : Prb} {q : Option Addr} {cap x i : Nat} {C : Cdr} {F : Nat → Prop} (h : MC w L S P q cap x C F) (hu : L.used i) : ¬ F (L.φ i) := fun e => h.dis _ e (.inl ⟨i, hu, rfl⟩)

theorem used_small {L : Lay} {i : Nat} (h : i < 88) (h2 : ¬ (7 ≤ i ∧ i < 11)) : L.used i := ⟨by omega, h2⟩
theorem used_lit {L : Lay} {a : Nat} (h : a < L.cnt) : L.used (88 + a) := ⟨by omega, by omega⟩

theorem cells_bit0 (L : Lay) (S : MSt) (f : Nat → Nat) {o : Nat} (x : Nat) (h1 : 10 ≤ o) (h2 : o < 442) : (cellsOf L S f 0).setIfInBounds o (v16 x) = cellsOf L S (updF f o x) 0 := by
  unfold cellsOf
  rw [if_pos rfl, if_pos rfl]
  refine rowV_set _ _ _ _ _ ?_ fun k hk => ?_
  · unfold mcell updF; rw [if_pos ⟨h1, h2⟩, if_pos rfl]
  · unfold mcell updF; rw [if_neg hk]
theorem cells_bit12 (L : Lay) (S : MSt) (f : Nat → Nat) {i o : Nat} (x : Nat) (hi : i = 1 ∨ i = 2) (h2 : o < 2) : (cellsOf L S f i).setIfInBounds o (v16 x) = cellsOf L S (updF f o x) i := by
  unfold cellsOf
  have e0 : ¬ i = 0 := by omega
  have e2 : i ≤ 2 := by omega
  simp only [if_neg e0, if_pos e2]
  refine rowV_set _ _ _ _ _ ?_ fun k hk => ?_
  · unfold lcell updF; rw [if_pos h2, if_pos rfl]
  · unfold lcell updF; rw [if_neg hk]
theorem cells_tree (L : Lay) (S : MSt) (f : Nat → Nat) {i : Nat} (h : 3 ≤ i) : cellsOf L S f i = rowP f (tsz i) := by unfold cellsOf; rw [if_neg (by omega), if_neg (by omega)]
theorem typ_tree {i : Nat} (h : 3 ≤ i) : typOf i = T16 := by unfold typOf; rw [if_neg (by omega), if_neg (by omega)]
theorem ok_tree {f : Nat → Nat} {i : Nat} (h : 3 ≤ i) : okRow f i ↔ TreeOk f (tsz i) := by unfold okRow; rw [if_neg (by omega), if_neg (by omega)]
theorem ok_bit0 {f : Nat → Nat} (h : okRow f 0) {o b : Nat} (h1 : 10 ≤ o) (h2 : o < 442) : okPr (f o) ∧ okRow (updF f o (learnP (f o) b)) 0 := by
  unfold okRow at h ⊢
  rw [if_pos rfl] at h ⊢
  refine ⟨h o h1 h2, fun k k1 k2 => ?_⟩
  unfold updF
  split
  · exact learnP_ok (h o h1 h2) b
  · exact h k k1 k2
theorem ok_bit12 {f : Nat → Nat} {i : Nat} (hi : i = 1 ∨ i = 2) (h : okRow f i) {o b : Nat} (h2 : o < 2) : okPr (f o) ∧ okRow (updF f o (learnP (f o) b)) i := by
  unfold okRow at h ⊢
  rw [if_neg (by omega), if_pos (by omega)] at h ⊢
  refine ⟨h o h2, fun k k2 => ?_⟩
  unfold updF
  split
  · exact learnP_ok (h o h2) b
  · exact h k k2
end Go.Proofs.YtalopgbkjgjppaaGreatDoor

/- The walks of model: place, literal; window.At, one. -/
namespace Go.Proofs.YtalopgbkjgjppaaGreatDoor
open Go.RowKit Go.Cas Go.Cas.Enc

theorem MM.mcell {w : World} {L : Lay} {S : MSt} {P : Prb} {q : Option Addr} {cap : Nat} (h : MM w L S P q cap) (o : Nat) (ho : o < 464) : w.cell? ⟨L.φ 0, o, none⟩ = some (mcell L S (P 0) o) := by
  have hb := h.blk 0 (used_small (by decide) (by decide))
  unfold cellsOf at hb
  rw [if_pos rfl] at hb
  rw [hb.cell o, rowV_get _ ho]

set_option maxHeartbeats 1000000 in
theorem mone_any (b : Bool) (w : World) : Calls Tryz.prog 86 #[.bool b] w fun e w' => e = .returned (i6 (if b then 1 else 0)) ∧ w' = w := by
  cases b
  all_goals
    go_enter Tryz.func86, Tryz.ntmps86
    go_wp2_with fail
    go_ret
    exact ⟨rfl, rfl⟩

def placeN (L : Lay) (S : MSt) : Nat := S.text.length % 2 ^ L.pb

set_option maxHeartbeats 2000000 in
set_option maxRecDepth 100000 in
theorem mplace_any (w : World) (L : Lay) (S : MSt) (P : Prb) (q : Option Addr) (cap : Nat) (h : MM w L S P q cap) :
    Calls Tryz.prog 85 #[.pointer (some ⟨L.φ 0, 0, none⟩)] w fun e w' => e = .returned (i6 (placeN L S)) ∧ Same w w' := by
  have c2 := h.mcell 2 (by decide)
  have c4 := h.mcell 4 (by decide)
  have e2 : Go.Proofs.YtalopgbkjgjppaaGreatDoor.mcell L S (P 0) 2 = i6 L.pb := rfl
  have e4 : Go.Proofs.YtalopgbkjgjppaaGreatDoor.mcell L S (P 0) 4 = .pointer (some ⟨L.wb, 0, none⟩) := rfl
  rw [e2] at c2
  rw [e4] at c4
  have HW := hid (fun w0 hw => wlen_any L.wb L.most cap S.text q w0 hw)
  have hpb := h.par.2.1
  have htl := h.par.2.2.2
  have hp : (2 : Nat) ^ L.pb ≤ 2 ^ 4 := Nat.pow_le_pow_right (by decide) hpb
  have hp0 : 0 < (2 : Nat) ^ L.pb := Nat.pow_pos (by decide)
  obtain ⟨K, hK⟩ : ∃ K, (2 : Nat) ^ L.pb = K := ⟨_, rfl⟩
  obtain ⟨K1, hK1⟩ : ∃ K1, K - 1 = K1 := ⟨_, rfl⟩
  have e1 : (2 : Int) ^ L.pb = (K : Int) := by rw [← hK]; push_cast; rfl
  obtain ⟨r, hr⟩ : ∃ r, placeN L S = r := ⟨_, rfl⟩
  rw [hr]
  have hr2 : S.text.length &&& K1 = r := by
    rw [← hr, ← hK1, ← hK]
    exact Nat.and_two_pow_sub_one_eq_mod _ _
  have e3 : bits BinOp.and IntKind.i64 (S.text.length : Int) (K1 : Int) = (r : Int) := by rw [and_i64 _ _ (by omega) (by omega), hr2]
  rw [hK] at hp hp0
  have e5 : IntKind.i64.wrap ((K : Int) - 1) = (K1 : Int) := by rw [IntWalk.i64_in _ (by omega)]; omega
  have e6 : (K : Int) - 1 = (K1 : Int) := by omega
  have e7 : IntKind.i64.wrap (K : Int) = (K : Int) := IntWalk.i64_in _ (by omega)
  have HM := hid (fun n => h.win.keeps (S := fun _ => False) ((Keeps.refl _ _).drewN n) (fun _ _ h => h))
  clear h e2 e4 hK hK1 hr hr2
  go_enter Tryz.func85, Tryz.ntmps85
  go_wp2_with fail
  go_quiet ((go_at_call 65; exact Calls.quiet_of_same ((HW.out _ (HM.out _)).mono fun e w' h => ⟨h.1, h.2.symm⟩)))
  go_wp2_with fail
  go_ret
  exact ⟨rfl, (Keeps.refl _ _).drewN _⟩

def atB (bs : List UInt8) (d : Int) : UInt8 := if 1 ≤ d ∧ d ≤ bs.length then bs[bs.length - d.toNat]?.getD 0 else 0
def atOk (bs : List UInt8) (d : Int) : Bool := decide (1 ≤ d ∧ d ≤ bs.length)

set_option maxHeartbeats 2000000 in
set_option maxRecDepth 100000 in
theorem wat_any (p M cap : Nat) (bs : List UInt8) (q : Option Addr) (d : Int) (w : World) (h : Win w p M bs q cap) (hl : bs.length ≤ 100000000) :
    Calls Tryz.prog 106 #[.pointer (some ⟨p, 0, none⟩), i6 d] w fun e w' => e = .returned (.tuple #[b8 (atB bs d), .bool (atOk bs d)]) ∧ ∃ n, w' = w.drewN n := by
  have hc := h.blk.cell 1
  simp only [List.getElem?_toArray, List.getElem?_cons_succ, List.getElem?_cons_zero] at hc
  by_cases h1 : d < 1
  · have e1 : atB bs d = 0 := by unfold atB; rw [if_neg (by omega)]
    have e2 : atOk bs d = false := by unfold atOk; simp; omega
    rw [e1, e2]
    have d0 : decide (d < 1) = true := by simpa using h1
    clear e1 e2 h
    go_enter Tryz.func106, Tryz.ntmps106
    go_wp2_with fail
    go_ret2
    exact ⟨rfl, 0, rfl⟩
  · have d0 : decide (d < 1) = false := by simpa using h1
    by_cases h2 : (bs.length : Int) < d
    · have e1 : atB bs d = 0 := by unfold atB; rw [if_neg (by omega)]
      have e2 : atOk bs d = false := by unfold atOk; simp; omega
      rw [e1, e2]
      have d1 : decide (d > (bs.length : Int)) = true := by simpa using h2
      have d2 : decide ((bs.length : Int) < d) = true := by simpa using h2
      clear e1 e2 h
      go_enter Tryz.func106, Tryz.ntmps106
      go_wp2_with fail
      go_ret2
      exact ⟨rfl, 0, rfl⟩
    · obtain ⟨n, rfl⟩ : ∃ n : Nat, d = n := ⟨d.toNat, by omega⟩
      obtain ⟨k, hk⟩ : ∃ k, bs.length - n = k := ⟨_, rfl⟩
      have hkl : k < bs.length := by omega
      have e1 : atB bs n = bs[k] := by unfold atB; rw [if_pos (by omega), Int.toNat_natCast, hk]; simp [hkl]
      have e2 : atOk bs n = true := by unfold atOk; simp; omega
      rw [e1, e2]
      have d1 : decide ((n : Int) > (bs.length : Int)) = false := by simp; omega
      have d2 : decide ((bs.length : Int) < (n : Int)) = false := by simp; omega
      cases q with
      | none => have := h.nil; subst this; simp at hkl
      | some a =>
        have ea := h.some
        generalize a.block = g at ea
        subst ea
        have hb := h.own.cellAt k (by omega)
        rw [b8_get bs k hkl] at hb
        obtain ⟨y, hy⟩ : ∃ y, bs[k] = y := ⟨_, rfl⟩
        rw [hy] at hb ⊢
        have c1 : IntKind.i64.wrap ((bs.length : Int) - (n : Int)) = (k : Int) := by rw [IntWalk.i64_in _ (by omega)]; omega
        have c2 : (bs.length : Int) - (n : Int) = (k : Int) := by omega
        have c3 : (0 : Int) ≤ (k : Int) ∧ (k : Int) < (bs.length : Int) := by omega
        obtain ⟨c4, c5⟩ := c3
        clear e1 e2 h hk hy
        go_enter Tryz.func106, Tryz.ntmps106
        go_wp2_with fail
        go_quiet (fail)
        go_wp2_with fail
        go_ret2
        exact ⟨rfl, _, rfl⟩

def lastB (S : MSt) : UInt8 := atB S.text 1
def litN (L : Lay) (S : MSt) : Nat := S.text.length % 2 ^ L.lp * 2 ^ L.lc + (lastB S).toNat / 2 ^ (8 - L.lc)

theorem litN_lt (L : Lay) (S : MSt) (h : L.lc + L.lp ≤ 4) : litN L S < L.cnt := by
  have hl := (lastB S).toNat_lt
  have h1 : S.text.length % 2 ^ L.lp < 2 ^ L.lp := Nat.mod_lt _ (Nat.pow_pos (by decide))
  have h2 : (lastB S).toNat / 2 ^ (8 - L.lc) < 2 ^ L.lc := by
    rw [Nat.div_lt_iff_lt_mul (Nat.pow_pos (by decide)), ← Nat.pow_add, show L.lc + (8 - L.lc) = 8 from by omega]
    exact hl
  unfold litN Lay.cnt
  rw [Nat.pow_add, Nat.mul_comm (2 ^ L.lc)]
  have h3 : (S.text.length % 2 ^ L.lp + 1) * 2 ^ L.lc ≤ 2 ^ L.lp * 2 ^ L.lc := Nat.mul_le_mul_right _ h1
  rw [Nat.add_mul, Nat.one_mul] at h3
  omega

set_option maxHeartbeats 4000000 in
set_option maxRecDepth 100000 in
theorem mliteral_any (w : World) (L : Lay) (S : MSt) (P : Prb) (q : Option Addr) (cap : Nat) (h : MM w L S P q cap) :
    Calls Tryz.prog 104 #[.pointer (some ⟨L.φ 0, 0, none⟩)] w fun e w' => e = .returned (L.tree (88 + litN L S)) ∧ Same w w' := by
  have c0 := h.mcell 0 (by decide)
  have c1 := h.mcell 1 (by decide)
  have c4 := h.mcell 4 (by decide)
  have c442 := h.mcell 442 (by decide)
  have e0 : Go.Proofs.YtalopgbkjgjppaaGreatDoor.mcell L S (P 0) 0 = i6 L.lc := rfl
  have e1 : Go.Proofs.YtalopgbkjgjppaaGreatDoor.mcell L S (P 0) 1 = i6 L.lp := rfl
  have e4 : Go.Proofs.YtalopgbkjgjppaaGreatDoor.mcell L S (P 0) 4 = .pointer (some ⟨L.wb, 0, none⟩) := rfl
  have e442 : Go.Proofs.YtalopgbkjgjppaaGreatDoor.mcell L S (P 0) 442 = .slice (some ⟨L.lb, 0, none⟩) L.cnt L.lcap := rfl
  rw [e0] at c0
  rw [e1] at c1
  rw [e4] at c4
  rw [e442] at c442
  have htl := h.par.2.2.2
  have hll := h.par.1
  have HAt := hid (fun w0 hw => wat_any L.wb L.most cap S.text q 1 w0 hw (by omega))
  have HLen := hid (fun w0 hw => wlen_any L.wb L.most cap S.text q w0 hw)
  have hix := litN_lt L S hll
  have hlit := h.lit (litN L S) hix
  have hyl := (lastB S).toNat_lt
  have hcnt : L.cnt ≤ 2 ^ 4 := Nat.pow_le_pow_right (by decide) hll
  obtain ⟨y, hy⟩ : ∃ y, atB S.text 1 = y := ⟨_, rfl⟩
  obtain ⟨ok, hok⟩ : ∃ ok, atOk S.text 1 = ok := ⟨_, rfl⟩
  rw [hy, hok] at HAt
  have hy2 : lastB S = y := hy
  have hyl2 : y.toNat < 256 := y.toNat_lt
  have hp : (2 : Nat) ^ L.lp ≤ 2 ^ 4 := Nat.pow_le_pow_right (by decide) (by omega)
  have hp0 : 0 < (2 : Nat) ^ L.lp := Nat.pow_pos (by decide)
  have hpc : (2 : Nat) ^ L.lc ≤ 2 ^ 4 := Nat.pow_le_pow_right (by decide) (by omega)
  obtain ⟨K, hK⟩ : ∃ K, (2 : Nat) ^ L.lp = K := ⟨_, rfl⟩
  obtain ⟨K1, hK1⟩ : ∃ K1, K - 1 = K1 := ⟨_, rfl⟩
  obtain ⟨ix, hixe⟩ : ∃ ix, litN L S = ix := ⟨_, rfl⟩
  rw [hixe] at hix hlit ⊢
  obtain ⟨r, hr⟩ : ∃ r, S.text.length % 2 ^ L.lp = r := ⟨_, rfl⟩
  obtain ⟨rs, hrs⟩ : ∃ rs, r * 2 ^ L.lc = rs := ⟨_, rfl⟩
  obtain ⟨sh, hsh⟩ : ∃ sh, 8 - L.lc = sh := ⟨_, rfl⟩
  obtain ⟨yd, hyd⟩ : ∃ yd, y.toNat / 2 ^ sh = yd := ⟨_, rfl⟩
  have hix2 : ix = rs + yd := by rw [← hixe, ← hrs, ← hr, ← hyd, ← hsh, ← hy2]; rfl
  have hyd2 : yd < 2 ^ L.lc := by
    rw [← hyd, Nat.div_lt_iff_lt_mul (Nat.pow_pos (by decide)), ← Nat.pow_add, ← hsh, show L.lc + (8 - L.lc) = 8 from by omega]
    exact hyl2
  have f1 : (2 : Int) ^ L.lp = (K : Int) := by rw [← hK]; push_cast; rfl
  have f2 : bits BinOp.and IntKind.i64 (S.text.length : Int) (K1 : Int) = (r : Int) := by
    rw [and_i64 _ _ (by omega) (by omega), ← hK1, ← hK, Nat.and_two_pow_sub_one_eq_mod, hr]
  rw [hK] at hp hp0
  have hrl : r < 16 := by rw [← hr, hK]; exact Nat.lt_of_lt_of_le (Nat.mod_lt _ hp0) hp
  have f3 : IntKind.i64.wrap ((K : Int) - 1) = (K1 : Int) := by rw [IntWalk.i64_in _ (by omega)]; omega
  have f4 : (K : Int) - 1 = (K1 : Int) := by omega
  have f5 : IntKind.i64.wrap (K : Int) = (K : Int) := IntWalk.i64_in _ (by omega)
  have hrsl : rs ≤ 256 := by rw [← hrs]; have : r * 2 ^ L.lc ≤ 16 * 16 := Nat.mul_le_mul (by omega) hpc
                             omega
  have f6 : (r : Int) * 2 ^ L.lc = (rs : Int) := by rw [← hrs]; push_cast; rfl
  have f7 : IntKind.i64.wrap (rs : Int) = (rs : Int) := IntWalk.i64_in _ (by omega)
  have f8 : (8 : Int) - (L.lc : Int) = (sh : Int) := by omega
  have f9 : IntKind.i64.wrap (sh : Int) = (sh : Int) := IntWalk.i64_in _ (by omega)
  have f10 : (y.toNat : Int) / 2 ^ sh = (yd : Int) := by rw [← hyd]; push_cast; rfl
  have f11 : bits BinOp.or IntKind.i64 (rs : Int) (yd : Int) = (ix : Int) := by
    rw [or_i64 rs yd (by omega) (by omega), ← hrs, or_join hyd2, hrs, hix2]
  have f12 : IntKind.i64.wrap (y.toNat : Int) = (y.toNat : Int) := IntWalk.i64_in _ (by omega)
  have f13 : (ix : Int) < (L.cnt : Int) := by omega
  have f14 : IntKind.i64.wrap ((8 : Int) - (L.lc : Int)) = (sh : Int) := by rw [IntWalk.i64_in _ (by omega)]; omega
  have hlcl : L.lc ≤ 4 ∧ sh ≤ 8 ∧ L.lp ≤ 4 ∧ K1 ≤ 16 ∧ K ≤ 16 := by omega
  obtain ⟨l1, l2, l3, l4, l5⟩ := hlcl
  have HM := hid (fun n => h.win.keeps (S := fun _ => False) ((Keeps.refl _ _).drewN n) (fun _ _ h => h))
  have hw0 := hid h.win
  have hlbl := h.lbl
  have HB0 := hid (And.intro trivial (And.intro (h.blk 0 (used_small (by decide) (by decide))) trivial))
  obtain ⟨tv, htv⟩ : ∃ tv, L.tree (88 + ix) = tv := ⟨_, rfl⟩
  rw [htv] at hlit ⊢
  clear h e0 e1 e4 e442 hK hK1 hr hrs hsh hyd hix2 hyd2 hy hy2 hok hixe htv hp hp0 hpc hyl hll hcnt
  go_enter Tryz.func104, Tryz.ntmps104
  go_wp2_with fail
  refine (HAt.out _ hw0.out).mono ?_
  rintro z w2 ⟨rfl, n2, hn2⟩
  have hs2 : Same w w2 := by rw [hn2]; exact (Keeps.refl _ _).drewN _
  have hb0 := HB0.out.2.1.lt
  have c0' := (hs2.cell (p := ⟨L.φ 0, 0, none⟩) hb0 (fun h => h)).trans c0
  have c1' := (hs2.cell (p := ⟨L.φ 0, 1, none⟩) hb0 (fun h => h)).trans c1
  have c4' := (hs2.cell (p := ⟨L.φ 0, 4, none⟩) hb0 (fun h => h)).trans c4
  have c442' := (hs2.cell (p := ⟨L.φ 0, 442, none⟩) hb0 (fun h => h)).trans c442
  have hlit2 := (hs2.cell (p := ⟨L.lb, ix, none⟩) hlbl (fun h => h)).trans hlit
  have HMb := hid (fun m => (hw0.out.keeps hs2 (fun _ _ h => h)).keeps (S := fun _ => False) ((Keeps.refl _ _).drewN m) (fun _ _ h => h))
  have hlit3 := hid hlit2
  clear hlit hlit2 c0 c1 c4 c442 hn2
  go_wp2_with fail
  go_quiet ((go_at_call 65; exact Calls.quiet_of_same ((HLen.out _ (HMb.out _)).mono fun e w' h => ⟨h.1, h.2.symm⟩)))
  have hlit := hlit3.out
  go_wp2_with fail
  go_ret
  exact ⟨rfl, hs2.drewN _⟩
end Go.Proofs.YtalopgbkjgjppaaGreatDoor
