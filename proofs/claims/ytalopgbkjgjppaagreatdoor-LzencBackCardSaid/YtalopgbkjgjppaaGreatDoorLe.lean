/- The walk of model's length. -/
import Derived.Test.YtalopgbkjgjppaaGreatDoorNu
import Derived.Handy
import Derived.Deep.CutBlock
namespace Go.Proofs.YtalopgbkjgjppaaGreatDoor
open Go.RowKit Go.Cas Go.Cas.Enc

def ifT (C : Cdr) : TypeId := if C.isEnc then 145 else 207
def ifV (C : Cdr) (x : Nat) : Value := .iface (ifT C) (recv x)

theorem MM.lcellAt {w : World} {L : Lay} {S : MSt} {P : Prb} {q : Option Addr} {cap : Nat} (h : MM w L S P q cap) (t : Nat) (ht : t < 2) (o : Nat) (ho : o < 35) : w.cell? ⟨L.φ (1 + t), o, none⟩ = some (lcell L t (P (1 + t)) o) := by
  have hb := h.blk (1 + t) (used_small (by omega) (by omega))
  unfold cellsOf at hb
  rw [if_neg (by omega), if_pos (by omega), show 1 + t - 1 = t from by omega] at hb
  rw [hb.cell o, rowV_get _ ho]

/-- A length, less two: what is told, the coder, the probabilities. -/
def farN (n : Nat) : Nat := if 16 ≤ n then 2 else if 8 ≤ n then 1 else 0
def lengthP (t pl n : Nat) (s : CSt) : Nat × CSt :=
  let a := bitP (1 + t) 0 (min (farN n) 1) s
  if a.1 = 0 then let b := treeP (22 + t * 32 + pl) 3 n a.2; (2 + b.1, b.2)
  else
    let b := bitP (1 + t) 1 (farN n - 1) a.2
    if b.1 = 0 then let c := treeP (22 + t * 32 + 16 + pl) 3 (n - 8) b.2; (10 + c.1, c.2)
    else let c := treeP (86 + t) 8 (n - 16) b.2; (18 + c.1, c.2)

theorem nil_bit (C : Cdr) (x k : Nat) (w : World) : (nilAhead (k + 40) (ifT C) (recv x) "cassone/model.bit").run Tryz.prog w = .ok (some false) w := by
  cases C <;> kernel_rfl
theorem nil_tree (C : Cdr) (x k : Nat) (w : World) : (nilAhead (k + 40) (ifT C) (recv x) "cassone/model.tree").run Tryz.prog w = .ok (some false) w := by
  cases C <;> kernel_rfl
theorem nil_back (C : Cdr) (x k : Nat) (w : World) : (nilAhead (k + 40) (ifT C) (recv x) "cassone/model.back").run Tryz.prog w = .ok (some false) w := by
  cases C <;> kernel_rfl
theorem met_bit (C : Cdr) (x k : Nat) (w : World) : (method (k + 40) (ifT C) (recv x) "cassone/model.bit").run Tryz.prog w = .ok (fnBit C, recv x) w := by
  cases C <;> kernel_rfl
theorem met_tree (C : Cdr) (x k : Nat) (w : World) : (method (k + 40) (ifT C) (recv x) "cassone/model.tree").run Tryz.prog w = .ok (fnTree C, recv x) w := by
  cases C <;> kernel_rfl
theorem met_back (C : Cdr) (x k : Nat) (w : World) : (method (k + 40) (ifT C) (recv x) "cassone/model.back").run Tryz.prog w = .ok (fnBack C, recv x) w := by
  cases C <;> kernel_rfl
theorem met_like (C : Cdr) (x k : Nat) (w : World) : (method (k + 40) (ifT C) (recv x) "cassone/model.like").run Tryz.prog w = .ok (fnLike C, recv x) w := by
  cases C <;> kernel_rfl
theorem met_direct (C : Cdr) (x k : Nat) (w : World) : (method (k + 40) (ifT C) (recv x) "cassone/model.direct").run Tryz.prog w = .ok (fnDirect C, recv x) w := by
  cases C <;> kernel_rfl

theorem cf_bit (C : Cdr) (args : Array Value) (w : World) : (callFunc (fnBit C) args).run Tryz.prog w = .ok (.enter (fnBit C) args) w := by
  cases C <;> kernel_rfl
theorem cf_tree (C : Cdr) (args : Array Value) (w : World) : (callFunc (fnTree C) args).run Tryz.prog w = .ok (.enter (fnTree C) args) w := by
  cases C <;> kernel_rfl
theorem cf_back (C : Cdr) (args : Array Value) (w : World) : (callFunc (fnBack C) args).run Tryz.prog w = .ok (.enter (fnBack C) args) w := by
  cases C <;> kernel_rfl
theorem cf_like (C : Cdr) (args : Array Value) (w : World) : (callFunc (fnLike C) args).run Tryz.prog w = .ok (.enter (fnLike C) args) w := by
  cases C <;> kernel_rfl
theorem cf_direct (C : Cdr) (args : Array Value) (w : World) : (callFunc (fnDirect C) args).run Tryz.prog w = .ok (.enter (fnDirect C) args) w := by
  cases C <;> kernel_rfl

theorem bitP_val (i o h : Nat) (s : CSt) (he : s.1.isEnc = true) : (bitP i o h s).1 = h := by
  obtain ⟨C, P⟩ := s
  cases C with
  | enc E => rfl
  | dec D => cases he

theorem bitP_enc (i o h : Nat) (s : CSt) : (bitP i o h s).2.1.isEnc = s.1.isEnc := by
  obtain ⟨C, P⟩ := s
  cases C <;> rfl

theorem Coded.at {w w' : World} {L : Lay} {S : MSt} {q : Option Addr} {cap x k : Nat} {F : Nat → Prop} {s : CSt} {z : Ending} {v : Value} (h : MCall w w' z v L S q cap x F k s) : z = .returned v ∧ ∃ F', MC w' L S s.2 q cap x s.1 F' ∧ Keeps (fun b => (∃ i, L.used i ∧ L.φ i = b) ∨ F b) w w' ∧ (∀ b, F' b → F b ∨ w.heap.size ≤ b) ∧ s.1.n ≤ k := by
  obtain ⟨h1, ⟨F', a, b, c⟩, h3⟩ := h
  exact ⟨h1, F', a, b, c, h3⟩

theorem MCall.then {w w' w'' : World} {L : Lay} {S : MSt} {q : Option Addr} {cap x k : Nat} {F F' : Nat → Prop} {s : CSt} {z : Ending} {v : Value} (hK : Keeps (fun b => (∃ i, L.used i ∧ L.φ i = b) ∨ F b) w w') (hG : ∀ b, F' b → F b ∨ w.heap.size ≤ b)
    (h : MCall w' w'' z v L S q cap x F' k s) : MCall w w'' z v L S q cap x F k s := ⟨h.1, Coded.trans hK hG h.2.1, h.2.2⟩
theorem MCall.pre {w w' w'' : World} {L : Lay} {S : MSt} {q : Option Addr} {cap x k : Nat} {F : Nat → Prop} {s : CSt} {z : Ending} {v : Value} (hs : Same w w') (h : MCall w' w'' z v L S q cap x F k s) : MCall w w'' z v L S q cap x F k s :=
  MCall.then (Keeps.of_same hs) (fun _ h => .inl h) h

theorem placeN_lt (L : Lay) (S : MSt) (h : L.pb ≤ 4) : placeN L S < 16 := Nat.lt_of_lt_of_le (Nat.mod_lt _ (Nat.pow_pos (by decide))) (show 2 ^ L.pb ≤ 2 ^ 4 from Nat.pow_le_pow_right (by decide) h)

theorem tree_near (t pl : Nat) (ht : t < 2) (hp : pl < 32) : tsz (22 + t * 32 + pl) = 2 ^ 3 := by
  unfold tsz; rw [if_neg (by omega), if_neg (by omega), if_neg (by omega), if_pos (by omega)]
theorem tree_far (t : Nat) (ht : t < 2) : tsz (86 + t) = 2 ^ 8 := by
  unfold tsz; rw [if_neg (by omega), if_neg (by omega), if_neg (by omega), if_neg (by omega), if_pos (by omega)]
theorem lcell_near (L : Lay) (t pl : Nat) (f : Nat → Nat) (hp : pl < 32) : lcell L t f (2 + pl) = L.tree (22 + t * 32 + pl) := by
  unfold lcell; rw [if_neg (by omega), if_pos (by omega), show 2 + pl - 2 = pl from by omega]
theorem lcell_far (L : Lay) (t : Nat) (f : Nat → Nat) : lcell L t f 34 = L.tree (86 + t) := by unfold lcell; rw [if_neg (by omega), if_neg (by omega)]

set_option maxHeartbeats 16000000 in
set_option maxRecDepth 100000 in
theorem mlength_any (w : World) (L : Lay) (S : MSt) (P : Prb) (q : Option Addr) (cap x : Nat) (C : Cdr) (F : Nat → Prop) (t n k : Nat) (nI : Int) (h : MC w L S P q cap x C F) (ht : t < 2) (hk : C.n ≤ k) (hk2 : k ≤ 80000000)
    (hh : C.isEnc = true → nI = n + 2 ∧ n < 272) (hI : -10 ≤ nI ∧ nI ≤ 10000) :
    Calls Tryz.prog 108 #[.pointer (some ⟨L.φ 0, 0, none⟩), ifV C x, .pointer (some ⟨L.φ (1 + t), 0, none⟩), i6 nI] w fun z w' =>
      MCall w w' z (i6 (lengthP t (placeN L S) n (C, P)).1) L S q cap x F (k + 40) (lengthP t (placeN L S) n (C, P)).2 := by
  obtain ⟨n2, hn2⟩ : ∃ n2 : Int, nI - 2 = n2 := ⟨_, rfl⟩
  have hfar : ∃ far : Nat, far ≤ 2 ∧ (16 ≤ n2 → far = 2) ∧ (n2 < 16 → 8 ≤ n2 → far = 1) ∧ (n2 < 8 → far = 0) := by
    by_cases h1 : 16 ≤ n2
    · exact ⟨2, by omega, by omega, by omega, by omega⟩
    · by_cases h2 : 8 ≤ n2
      · exact ⟨1, by omega, by omega, by omega, by omega⟩
      · exact ⟨0, by omega, by omega, by omega, by omega⟩
  obtain ⟨far, hfl, hf1, hf2, hf3⟩ := hfar
  have hfe : C.isEnc = true → far = farN n ∧ n2 = n := by
    intro hc
    obtain ⟨h1, h2⟩ := hh hc
    unfold farN
    split
    · omega
    · split <;> omega
  have HF := hid (And.intro hf1 (And.intro hf2 hf3))
  have HE := hid hfe
  have HH := hid hh
  have hpl := placeN_lt L S h.mm.par.2.1
  obtain ⟨pl, hple⟩ : ∃ pl, placeN L S = pl := ⟨_, rfl⟩
  have HPl : Hid (∀ (w0 : World) (P0 : Prb) (hw : MM w0 L S P0 q cap), Calls Tryz.prog 85 #[.pointer (some ⟨L.φ 0, 0, none⟩)] w0 fun e w' => e = .returned (i6 pl) ∧ Same w0 w') := hid (fun w0 P0 hw => by rw [← hple]; exact mplace_any w0 L S P0 q cap hw)
  rw [hple] at hpl ⊢
  have hp0 : (0 : Int) ≤ (pl : Int) := by omega
  have hp1 : (pl : Int) < 16 := by omega
  unfold ifV
  have hna := nil_bit C x
  have hme := met_bit C x
  have hcf := cf_bit C
  have hna2 := nil_tree C x
  obtain ⟨T, hT⟩ : ∃ T, ifT C = T := ⟨_, rfl⟩
  have HT := hid hT
  rw [hT] at hna hme hna2 ⊢
  have HM := hid h
  have HPE := hid hple
  have hI2 : -12 ≤ n2 ∧ n2 ≤ 10000 := by omega
  have HR := hid (rfl : lengthP t pl n (C, P) = lengthP t pl n (C, P))
  obtain ⟨R, hR⟩ : ∃ R, lengthP t pl n (C, P) = R := ⟨_, rfl⟩
  rw [hR]
  have HRR := hid hR
  clear hf1 hf2 hf3 hfe hh h hple hT hR HR
  go_enter Tryz.func108, Tryz.ntmps108
  go_upto_block 0 with fail
  go_cut [9] (fun v wx => v = i6 far ∧ wx = w)
  case first =>
    go_wp2_with fail
    all_goals go_meet
    all_goals
      refine ⟨?_, rfl⟩
      first | rw [HF.out.1 (by assumption)] | rw [HF.out.2.1 (by assumption) (by assumption)] | rw [HF.out.2.2 (by assumption)]
      try rfl
  case rest =>
    obtain ⟨rfl, rfl⟩ := hcut
    go_upto_region 7 with fail
    refine wp_region_held_drew (S := (fun V => True)) (by kernel_rfl) (by (try dsimp only); (first | done | trivial)) (fun hHeld => ?_)
    refine wpAnyH_take (i := 0) (oi := ⟨some 18, _, _, _, _, _⟩) (v := ?v0) rfl (by kernel_rfl) (by kernel_rfl) (by kernel_rfl) (fun _ _ _ h => h) (Or.inl ⟨by rfl, ?h0⟩) (by assumption) ?r0
    case h0 => intro w hSw; (try dsimp only at hSw); go_simp; (try with_reducible rfl)
    try simp only [Act.put, List.setIfInBounds_toArray, List.set_cons_zero, List.set_cons_succ]
    refine wpAnyH_take (i := 1) (oi := ⟨some 19, _, _, _, _, _⟩) (v := ?v1) rfl (by kernel_rfl) (by kernel_rfl) (by kernel_rfl) (fun _ _ _ h => h) (Or.inl ⟨by rfl, ?h1⟩) (by assumption) ?r1
    case h1 => intro w hSw; (try dsimp only at hSw); go_simp; (try with_reducible rfl)
    try simp only [Act.put, List.setIfInBounds_toArray, List.set_cons_zero, List.set_cons_succ]
    refine wpAnyH_take (i := 2) (oi := ⟨some 20, _, _, _, _, _⟩) (v := ?v2) rfl (by kernel_rfl) (by kernel_rfl) (by kernel_rfl) (fun _ _ _ h => h) (Or.inl ⟨by rfl, ?h2⟩) (by assumption) ?r2
    case h2 => intro w hSw; (try dsimp only at hSw); go_simp; (try with_reducible rfl)
    try simp only [Act.put, List.setIfInBounds_toArray, List.set_cons_zero, List.set_cons_succ]
    refine wpAnyH_take (i := 3) (oi := ⟨some 21, _, _, _, _, _⟩) (v := ?v3) rfl (by kernel_rfl) (by kernel_rfl) (by kernel_rfl) (fun _ _ _ h => h) (Or.inl ⟨by rfl, ?h3⟩) (by assumption) ?r3
    case h3 => intro w hSw; (try dsimp only at hSw); go_simp; (try with_reducible rfl)
    try simp only [Act.put, List.setIfInBounds_toArray, List.set_cons_zero, List.set_cons_succ]
    refine wpAnyH_take (i := 4) (oi := ⟨some 22, _, _, _, _, _⟩) (v := ?v4) rfl (by kernel_rfl) (by kernel_rfl) (by kernel_rfl) (fun _ _ _ h => h) (Or.inl ⟨by rfl, ?h4⟩) (by assumption) ?r4
    case h4 => intro w hSw; (try dsimp only at hSw); go_simp; (try with_reducible rfl)
    try simp only [Act.put, List.setIfInBounds_toArray, List.set_cons_zero, List.set_cons_succ]
    refine wpAnyH_take (i := 5) (oi := ⟨some 23, _, _, _, _, _⟩) (v := ?v5) rfl (by kernel_rfl) (by kernel_rfl) (by kernel_rfl) (fun _ _ _ h => h) (Or.inl ⟨by rfl, ?h5⟩) (by assumption) ?r5
    case h5 => intro w hSw; (try dsimp only at hSw); go_simp; (try with_reducible rfl)
    try simp only [Act.put, List.setIfInBounds_toArray, List.set_cons_zero, List.set_cons_succ]
    refine wpAnyH_take (i := 6) (oi := ⟨some 24, _, _, _, _, _⟩) (v := ?v6) rfl (by kernel_rfl) (by kernel_rfl) (by kernel_rfl) (fun _ _ _ h => h) (Or.inl ⟨by rfl, ?h6⟩) (by assumption) ?r6
    case h6 => intro w hSw; (try dsimp only at hSw); go_simp; (try with_reducible rfl)
    try simp only [Act.put, List.setIfInBounds_toArray, List.set_cons_zero, List.set_cons_succ]
    refine wpAnyH_take (i := 7) (oi := ⟨some 25, _, _, _, _, _⟩) (v := ?v7) rfl (by kernel_rfl) (by kernel_rfl) (by kernel_rfl) (fun _ _ _ h => h) (Or.inl ⟨by rfl, ?h7⟩) (by assumption) ?r7
    case h7 => intro w hSw; (try dsimp only at hSw); go_simp; (try with_reducible rfl)
    try simp only [Act.put, List.setIfInBounds_toArray, List.set_cons_zero, List.set_cons_succ]
    refine wpAnyH_take (i := 8) (oi := ⟨some 26, _, _, _, _, _⟩) (v := ?v8) rfl (by kernel_rfl) (by kernel_rfl) (by kernel_rfl) (fun _ _ _ h => h) (Or.inl ⟨by rfl, ?h8⟩) (by assumption) ?r8
    case h8 => intro w hSw; (try dsimp only at hSw); go_simp; (try with_reducible rfl)
    try simp only [Act.put, List.setIfInBounds_toArray, List.set_cons_zero, List.set_cons_succ]
    refine wpAnyH_take (i := 9) (oi := ⟨some 27, _, _, _, _, _⟩) (v := ?v9) rfl (by kernel_rfl) (by kernel_rfl) (by kernel_rfl) (fun _ _ _ h => h) (Or.inl ⟨by rfl, ?h9⟩) (by assumption) ?r9
    case h9 => intro w hSw; (try dsimp only at hSw); go_simp; (try with_reducible rfl)
    try simp only [Act.put, List.setIfInBounds_toArray, List.set_cons_zero, List.set_cons_succ]
    refine wpAnyH_ready (rs := [10]) (by kernel_rfl) (by simp) ?_
    refine AllReadyH.cons (o := ⟨some 28, _, _, _, _, _⟩) rfl (fun K hK => ?_) AllReadyH.nil
    go_simp; refine ((HM.out.same ((Keeps.refl _ _).drew)).bit (i := 1 + t) (o := 0) (h := min (farN n) 1) hk (by omega) (.inr ⟨by omega, by decide⟩) (fun hc => by (obtain ⟨e1, e2⟩ := HE.out hc; rw [← e1]; omega))).mono ?_; intro z w6 h6; obtain ⟨rfl, F6, hM6, hK6, hG6, hk6⟩ := Coded.at h6
    refine hK.out _ _ (by (try dsimp only); (first | done | trivial)) (fun hHeld => ?_)
    clear hK K
    try simp only [Act.put, List.setIfInBounds_toArray, List.set_cons_zero, List.set_cons_succ]
    refine wpAnyH_take (i := 11) (oi := ⟨some 29, _, _, _, _, _⟩) (v := ?v11) rfl (by kernel_rfl) (by kernel_rfl) (by kernel_rfl) (fun _ _ _ h => h) (Or.inl ⟨by rfl, ?h11⟩) (by assumption) ?r11
    case h11 => intro w hSw; (try dsimp only at hSw); go_simp; (try with_reducible rfl)
    try simp only [Act.put, List.setIfInBounds_toArray, List.set_cons_zero, List.set_cons_succ]
    refine wpAnyH_done (by kernel_rfl) ?_ _
    clear hHeld
    generalize hb1 : (bitP (1 + t) 0 (min (farN n) 1) (C, P)).1 = b1 at *
    generalize hs1 : (bitP (1 + t) 0 (min (farN n) 1) (C, P)).2 = s1 at *
    have HB1 := hid (And.intro hb1 hs1)
    obtain ⟨C1, P1⟩ := s1
    dsimp only at hM6 hk6
    have he1 : C1.isEnc = C.isEnc := by
      have e : (bitP (1 + t) 0 (min (farN n) 1) (C, P)).2.1 = C1 := by rw [hs1]
      rw [← e]
      exact bitP_enc _ _ _ _
    have HE1 := hid he1
    have HX6 := hid (And.intro hM6 (And.intro hK6 (And.intro hG6 hk6)))
    have hme2 := met_tree C1 x
    have hna2 := nil_tree C1 x
    have hcf2 := cf_tree C1
    have hT1 : ifT C1 = T := by rw [← HT.out]; unfold ifT; rw [he1]
    rw [hT1] at hme2 hna2
    have hfr : fnBit C1 = fnBit C := by unfold fnBit; rw [he1]
    have HFR := hid hfr
    clear hb1 hs1 he1 hM6 hK6 hG6 hk6 hT1 hfr h6
    by_cases hb0 : b1 = 0
    · have d0 : ((b1 : Int) == 0) = true := by simp; omega
      have hlc := HX6.out.1.mm.lcellAt t ht (2 + pl) (by omega)
      rw [lcell_near L t pl _ (by omega)] at hlc
      have HB0 := hid hb0
      clear hb0
      go_upto_region 8 with fail
      refine wp_region_held_drew (S := (fun V => V.cell? ⟨L.φ (1 + t), 2 + pl, none⟩ = some (L.tree (22 + t * 32 + pl)))) (by kernel_rfl) (by (try dsimp only); exact hlc) (fun hHeld => ?_)
      refine wpAnyH_take (i := 0) (oi := ⟨some 30, _, _, _, _, _⟩) (v := ?v0b) rfl (by kernel_rfl) (by kernel_rfl) (by kernel_rfl) (fun _ _ _ h => h) (Or.inl ⟨by rfl, ?h0b⟩) (by assumption) ?r0b
      case h0b => intro w hSw; (try dsimp only at hSw); go_simp; (try with_reducible rfl)
      try simp only [Act.put, List.setIfInBounds_toArray, List.set_cons_zero, List.set_cons_succ]
      refine wpAnyH_take (i := 1) (oi := ⟨some 31, _, _, _, _, _⟩) (v := ?v1b) rfl (by kernel_rfl) (by kernel_rfl) (by kernel_rfl) (fun _ _ _ h => h) (Or.inl ⟨by rfl, ?h1b⟩) (by assumption) ?r1b
      case h1b => intro w hSw; (try dsimp only at hSw); go_simp; (try with_reducible rfl)
      try simp only [Act.put, List.setIfInBounds_toArray, List.set_cons_zero, List.set_cons_succ]
      refine wpAnyH_take (i := 2) (oi := ⟨some 32, _, _, _, _, _⟩) (v := ?v2b) rfl (by kernel_rfl) (by kernel_rfl) (by kernel_rfl) (fun _ _ _ h => h) (Or.inl ⟨by rfl, ?h2b⟩) (by assumption) ?r2b
      case h2b => intro w hSw; (try dsimp only at hSw); go_simp; (try with_reducible rfl)
      try simp only [Act.put, List.setIfInBounds_toArray, List.set_cons_zero, List.set_cons_succ]
      refine wpAnyH_take (i := 4) (oi := ⟨some 34, _, _, _, _, _⟩) (v := ?v4b) rfl (by kernel_rfl) (by kernel_rfl) (by kernel_rfl) (fun _ _ _ h => h) (Or.inl ⟨by rfl, ?h4b⟩) (by assumption) ?r4b
      case h4b => intro w hSw; (try dsimp only at hSw); go_simp; (try with_reducible rfl)
      try simp only [Act.put, List.setIfInBounds_toArray, List.set_cons_zero, List.set_cons_succ]
      refine wpAnyH_take (i := 5) (oi := ⟨some 35, _, _, _, _, _⟩) (v := ?v5b) rfl (by kernel_rfl) (by kernel_rfl) (by kernel_rfl) (fun _ _ _ h => h) (Or.inl ⟨by rfl, ?h5b⟩) (by assumption) ?r5b
      case h5b => intro w hSw; (try dsimp only at hSw); go_simp; (try with_reducible rfl)
      try simp only [Act.put, List.setIfInBounds_toArray, List.set_cons_zero, List.set_cons_succ]
      refine wpAnyH_take (i := 6) (oi := ⟨some 36, _, _, _, _, _⟩) (v := ?v6b) rfl (by kernel_rfl) (by kernel_rfl) (by kernel_rfl) (fun _ _ _ h => h) (Or.inl ⟨by rfl, ?h6b⟩) (by assumption) ?r6b
      case h6b => intro w hSw; (try dsimp only at hSw); go_simp; (try with_reducible rfl)
      try simp only [Act.put, List.setIfInBounds_toArray, List.set_cons_zero, List.set_cons_succ]
      refine wpAnyH_take (i := 9) (oi := ⟨some 39, _, _, _, _, _⟩) (v := ?v9b) rfl (by kernel_rfl) (by kernel_rfl) (by kernel_rfl) (fun _ _ _ h => h) (Or.inl ⟨by rfl, ?h9b⟩) (by assumption) ?r9b
      case h9b => intro w hSw; (try dsimp only at hSw); go_simp; (try with_reducible rfl)
      try simp only [Act.put, List.setIfInBounds_toArray, List.set_cons_zero, List.set_cons_succ]
      refine wpAnyH_take (i := 10) (oi := ⟨some 40, _, _, _, _, _⟩) (v := ?v10b) rfl (by kernel_rfl) (by kernel_rfl) (by kernel_rfl) (fun _ _ _ h => h) (Or.inl ⟨by rfl, ?h10b⟩) (by assumption) ?r10b
      case h10b => intro w hSw; (try dsimp only at hSw); go_simp; (try with_reducible rfl)
      try simp only [Act.put, List.setIfInBounds_toArray, List.set_cons_zero, List.set_cons_succ]
      refine wpAnyH_take (i := 11) (oi := ⟨some 41, _, _, _, _, _⟩) (v := ?v11b) rfl (by kernel_rfl) (by kernel_rfl) (by kernel_rfl) (fun _ _ _ h => h) (Or.inl ⟨by rfl, ?h11b⟩) (by assumption) ?r11b
      case h11b => intro w hSw; (try dsimp only at hSw); go_simp; (try with_reducible rfl)
      try simp only [Act.put, List.setIfInBounds_toArray, List.set_cons_zero, List.set_cons_succ]
      refine wpAnyH_take (i := 12) (oi := ⟨some 42, _, _, _, _, _⟩) (v := ?v12b) rfl (by kernel_rfl) (by kernel_rfl) (by kernel_rfl) (fun _ _ _ h => h) (Or.inl ⟨by rfl, ?h12b⟩) (by assumption) ?r12b
      case h12b => intro w hSw; (try dsimp only at hSw); go_simp; (try with_reducible rfl)
      try simp only [Act.put, List.setIfInBounds_toArray, List.set_cons_zero, List.set_cons_succ]
      refine wpAnyH_ready (rs := [3]) (by kernel_rfl) (by simp) ?_
      refine AllReadyH.cons (o := ⟨some 33, _, _, _, _, _⟩) rfl (fun K hK => ?_) AllReadyH.nil
      go_simp; (go_at_call 85; refine (HPl.out _ _ (HX6.out.1.same ((Keeps.refl _ _).drew)).mm).mono ?_; rintro z w7 ⟨rfl, hs7⟩; have hM7 := (HX6.out.1.same ((Keeps.refl _ _).drew)).same hs7; have hl7 := hM7.mm.lcellAt t ht (2 + pl) (by omega); rw [lcell_near L t pl _ (by omega)] at hl7)
      refine hK.out _ _ (by (try dsimp only); exact hl7) (fun hHeld => ?_)
      clear hK K
      try simp only [Act.put, List.setIfInBounds_toArray, List.set_cons_zero, List.set_cons_succ]
      refine wpAnyH_take (i := 7) (oi := ⟨some 37, _, _, _, _, _⟩) (v := ?v7b) rfl (by kernel_rfl) (by kernel_rfl) (by kernel_rfl) (fun _ _ _ h => h) (Or.inl ⟨by rfl, ?h7b⟩) (by assumption) ?r7b
      case h7b => intro w hSw; (try dsimp only at hSw); go_simp; (try with_reducible rfl)
      try simp only [Act.put, List.setIfInBounds_toArray, List.set_cons_zero, List.set_cons_succ]
      refine wpAnyH_take (i := 8) (oi := ⟨some 38, _, _, _, _, _⟩) (v := ?v8b) rfl (by kernel_rfl) (by kernel_rfl) (by kernel_rfl) (fun _ _ _ h => h) (Or.inl ⟨by rfl, ?h8b⟩) (by assumption) ?r8b
      case h8b => intro w hSw; (try dsimp only at hSw); go_simp; (try with_reducible rfl)
      try simp only [Act.put, List.setIfInBounds_toArray, List.set_cons_zero, List.set_cons_succ]
      refine wpAnyH_ready (rs := [13]) (by kernel_rfl) (by simp) ?_
      refine AllReadyH.cons (o := ⟨some 43, _, _, _, _, _⟩) rfl (fun K hK => ?_) AllReadyH.nil
      go_simp; refine (hM7.tree (i := 22 + t * 32 + pl) (n := 3) (h := n) HX6.out.2.2.2 (by omega) (used_small (by omega) (by omega)) (by omega) (tree_near t pl ht (by omega)) (by decide) (fun hc => by (have hc2 := HE1.out.symm.trans hc; obtain ⟨e1, e2⟩ := HE.out hc2; have e3 := bitP_val (1 + t) 0 (min (farN n) 1) (C, P) hc2; rw [HB1.out.1, HB0.out] at e3; unfold farN at e3; have e4 : n < 8 := (by revert e3; split; omega; split <;> omega); omega))).mono ?_; intro z w8 h8; have HC8 := hid (MCall.pre hs7 h8); obtain ⟨rfl, F8, hM8, hK8, hG8, hk8⟩ := Coded.at h8; have hl8 := hM8.mm.lcellAt t ht (2 + pl) (by omega); rw [lcell_near L t pl _ (by omega)] at hl8
      refine hK.out _ _ (by (try dsimp only); exact hl8) (fun hHeld => ?_)
      clear hK K
      try simp only [Act.put, List.setIfInBounds_toArray, List.set_cons_zero, List.set_cons_succ]
      refine wpAnyH_take (i := 14) (oi := ⟨some 44, _, _, _, _, _⟩) (v := ?v14b) rfl (by kernel_rfl) (by kernel_rfl) (by kernel_rfl) (fun _ _ _ h => h) (Or.inl ⟨by rfl, ?h14b⟩) (by assumption) ?r14b
      case h14b => intro w hSw; (try dsimp only at hSw); go_simp; (try with_reducible rfl)
      try simp only [Act.put, List.setIfInBounds_toArray, List.set_cons_zero, List.set_cons_succ]
      refine wpAnyH_take (i := 15) (oi := ⟨some 8, _, _, _, _, _⟩) (v := ?v15b) rfl (by kernel_rfl) (by kernel_rfl) (by kernel_rfl) (fun _ _ _ h => h) (Or.inl ⟨by rfl, ?h15b⟩) (by assumption) ?r15b
      case h15b => intro w hSw; (try dsimp only at hSw); go_simp; (try with_reducible rfl)
      try simp only [Act.put, List.setIfInBounds_toArray, List.set_cons_zero, List.set_cons_succ]
      refine wpAnyH_done (by kernel_rfl) ?_ _
      have hv := hM7.tree_lt (i := 22 + t * 32 + pl) (n := 3) (h := n) (used_small (by omega) (by omega)) (by omega) (tree_near t pl ht (by omega))
      have hr : R = (2 + (treeP (22 + t * 32 + pl) 3 n (C1, P1)).1, (treeP (22 + t * 32 + pl) 3 n (C1, P1)).2) := by
        rw [← HRR.out]
        unfold lengthP
        simp only [HB1.out.1, HB1.out.2]
        rw [if_pos HB0.out]
      have hc := MCall.pre ((Keeps.refl _ wc).drew) (MCall.then HX6.out.2.1 HX6.out.2.2.1 (MCall.pre ((Keeps.refl _ w6).drew) HC8.out))
      have HC := hid (And.intro hr hc)
      obtain ⟨v8, hv8⟩ : ∃ v8, (treeP (22 + t * 32 + pl) 3 n (C1, P1)).1 = v8 := ⟨_, rfl⟩
      rw [hv8] at hv ⊢
      have HV := hid hv8
      have ew : IntKind.i64.wrap (2 + (v8 : Int)) = ((2 + v8 : Nat) : Int) := by rw [IntWalk.i64_in _ (by omega)]; omega
      rw [ew]
      clear hr hc hv8 h8 hM8 hK8 hG8 hk8 hl8 HC8 ew
      go_wp2_with fail
      go_ret
      obtain ⟨hr, hc⟩ := HC.out
      rw [hr]
      refine ⟨?_, hc.2.1, Nat.le_trans hc.2.2 (by omega)⟩
      show _ = Ending.returned (i6 ((2 + (treeP (22 + t * 32 + pl) 3 n (C1, P1)).1 : Nat) : Int))
      rw [HV.out]
      rfl
    · have d0 : ((b1 : Int) == 0) = false := by simp; omega
      have HB0 := hid hb0
      have fw : IntKind.i64.wrap ((far : Int) - 1) = (far : Int) - 1 := IntWalk.i64_in _ (by omega)
      have hme3 := met_bit C1 x
      have hna3 := nil_bit C1 x
      have hcf3 := cf_bit C1
      have hT1 : ifT C1 = T := by rw [← HT.out]; unfold ifT; rw [HE1.out]
      rw [hT1] at hme3 hna3
      clear hb0 hme hna hcf
      go_upto_region 9 with fail
      refine wp_region_held_drew (S := (fun V => True)) (by kernel_rfl) (by (try dsimp only); (first | done | trivial)) (fun hHeld => ?_)
      refine wpAnyH_take (i := 0) (oi := ⟨some 45, _, _, _, _, _⟩) (v := ?v0c) rfl (by kernel_rfl) (by kernel_rfl) (by kernel_rfl) (fun _ _ _ h => h) (Or.inl ⟨by rfl, ?h0c⟩) (by assumption) ?r0c
      case h0c => intro w hSw; (try dsimp only at hSw); go_simp; (try with_reducible rfl)
      try simp only [Act.put, List.setIfInBounds_toArray, List.set_cons_zero, List.set_cons_succ]
      refine wpAnyH_take (i := 1) (oi := ⟨some 46, _, _, _, _, _⟩) (v := ?v1c) rfl (by kernel_rfl) (by kernel_rfl) (by kernel_rfl) (fun _ _ _ h => h) (Or.inl ⟨by rfl, ?h1c⟩) (by assumption) ?r1c
      case h1c => intro w hSw; (try dsimp only at hSw); go_simp; (try with_reducible rfl)
      try simp only [Act.put, List.setIfInBounds_toArray, List.set_cons_zero, List.set_cons_succ]
      refine wpAnyH_take (i := 2) (oi := ⟨some 47, _, _, _, _, _⟩) (v := ?v2c) rfl (by kernel_rfl) (by kernel_rfl) (by kernel_rfl) (fun _ _ _ h => h) (Or.inl ⟨by rfl, ?h2c⟩) (by assumption) ?r2c
      case h2c => intro w hSw; (try dsimp only at hSw); go_simp; (try with_reducible rfl)
      try simp only [Act.put, List.setIfInBounds_toArray, List.set_cons_zero, List.set_cons_succ]
      refine wpAnyH_take (i := 3) (oi := ⟨some 48, _, _, _, _, _⟩) (v := ?v3c) rfl (by kernel_rfl) (by kernel_rfl) (by kernel_rfl) (fun _ _ _ h => h) (Or.inl ⟨by rfl, ?h3c⟩) (by assumption) ?r3c
      case h3c => intro w hSw; (try dsimp only at hSw); go_simp; (try with_reducible rfl)
      try simp only [Act.put, List.setIfInBounds_toArray, List.set_cons_zero, List.set_cons_succ]
      refine wpAnyH_take (i := 4) (oi := ⟨some 49, _, _, _, _, _⟩) (v := ?v4c) rfl (by kernel_rfl) (by kernel_rfl) (by kernel_rfl) (fun _ _ _ h => h) (Or.inl ⟨by rfl, ?h4c⟩) (by assumption) ?r4c
      case h4c => intro w hSw; (try dsimp only at hSw); go_simp; (try with_reducible rfl)
      try simp only [Act.put, List.setIfInBounds_toArray, List.set_cons_zero, List.set_cons_succ]
      refine wpAnyH_take (i := 5) (oi := ⟨some 50, _, _, _, _, _⟩) (v := ?v5c) rfl (by kernel_rfl) (by kernel_rfl) (by kernel_rfl) (fun _ _ _ h => h) (Or.inl ⟨by rfl, ?h5c⟩) (by assumption) ?r5c
      case h5c => intro w hSw; (try dsimp only at hSw); go_simp; (try with_reducible rfl)
      try simp only [Act.put, List.setIfInBounds_toArray, List.set_cons_zero, List.set_cons_succ]
      refine wpAnyH_take (i := 6) (oi := ⟨some 51, _, _, _, _, _⟩) (v := ?v6c) rfl (by kernel_rfl) (by kernel_rfl) (by kernel_rfl) (fun _ _ _ h => h) (Or.inl ⟨by rfl, ?h6c⟩) (by assumption) ?r6c
      case h6c => intro w hSw; (try dsimp only at hSw); go_simp; (try with_reducible rfl)
      try simp only [Act.put, List.setIfInBounds_toArray, List.set_cons_zero, List.set_cons_succ]
      refine wpAnyH_take (i := 7) (oi := ⟨some 52, _, _, _, _, _⟩) (v := ?v7c) rfl (by kernel_rfl) (by kernel_rfl) (by kernel_rfl) (fun _ _ _ h => h) (Or.inl ⟨by rfl, ?h7c⟩) (by assumption) ?r7c
      case h7c => intro w hSw; (try dsimp only at hSw); go_simp; (try with_reducible rfl)
      try simp only [Act.put, List.setIfInBounds_toArray, List.set_cons_zero, List.set_cons_succ]
      refine wpAnyH_take (i := 8) (oi := ⟨some 53, _, _, _, _, _⟩) (v := ?v8c) rfl (by kernel_rfl) (by kernel_rfl) (by kernel_rfl) (fun _ _ _ h => h) (Or.inl ⟨by rfl, ?h8c⟩) (by assumption) ?r8c
      case h8c => intro w hSw; (try dsimp only at hSw); go_simp; (try with_reducible rfl)
      try simp only [Act.put, List.setIfInBounds_toArray, List.set_cons_zero, List.set_cons_succ]
      refine wpAnyH_take (i := 9) (oi := ⟨some 54, _, _, _, _, _⟩) (v := ?v9c) rfl (by kernel_rfl) (by kernel_rfl) (by kernel_rfl) (fun _ _ _ h => h) (Or.inl ⟨by rfl, ?h9c⟩) (by assumption) ?r9c
      case h9c => intro w hSw; (try dsimp only at hSw); go_simp; (try with_reducible rfl)
      try simp only [Act.put, List.setIfInBounds_toArray, List.set_cons_zero, List.set_cons_succ]
      refine wpAnyH_take (i := 10) (oi := ⟨some 55, _, _, _, _, _⟩) (v := ?v10c) rfl (by kernel_rfl) (by kernel_rfl) (by kernel_rfl) (fun _ _ _ h => h) (Or.inl ⟨by rfl, ?h10c⟩) (by assumption) ?r10c
      case h10c => intro w hSw; (try dsimp only at hSw); go_simp; (try with_reducible rfl)
      try simp only [Act.put, List.setIfInBounds_toArray, List.set_cons_zero, List.set_cons_succ]
      refine wpAnyH_ready (rs := [11]) (by kernel_rfl) (by simp) ?_
      refine AllReadyH.cons (o := ⟨some 56, _, _, _, _, _⟩) rfl (fun K hK => ?_) AllReadyH.nil
      go_simp; refine ((HX6.out.1.same ((Keeps.refl _ _).drew)).bit (i := 1 + t) (o := 1) (h := farN n - 1) HX6.out.2.2.2 (by omega) (.inr ⟨by omega, by decide⟩) (fun hc => by (obtain ⟨e1, e2⟩ := HE.out (HE1.out.symm.trans hc); rw [← e1]; omega))).mono ?_; intro z w9 h9; obtain ⟨rfl, F9, hM9, hK9, hG9, hk9⟩ := Coded.at h9
      refine hK.out _ _ (by (try dsimp only); (first | done | trivial)) (fun hHeld => ?_)
      clear hK K
      try simp only [Act.put, List.setIfInBounds_toArray, List.set_cons_zero, List.set_cons_succ]
      refine wpAnyH_take (i := 12) (oi := ⟨some 57, _, _, _, _, _⟩) (v := ?v12c) rfl (by kernel_rfl) (by kernel_rfl) (by kernel_rfl) (fun _ _ _ h => h) (Or.inl ⟨by rfl, ?h12c⟩) (by assumption) ?r12c
      case h12c => intro w hSw; (try dsimp only at hSw); go_simp; (try with_reducible rfl)
      try simp only [Act.put, List.setIfInBounds_toArray, List.set_cons_zero, List.set_cons_succ]
      refine wpAnyH_done (by kernel_rfl) ?_ _
      clear hHeld
      generalize hb2 : (bitP (1 + t) 1 (farN n - 1) (C1, P1)).1 = b2 at *
      generalize hs2 : (bitP (1 + t) 1 (farN n - 1) (C1, P1)).2 = s2 at *
      have HB2 := hid (And.intro hb2 hs2)
      obtain ⟨C2, P2⟩ := s2
      dsimp only at hM9 hk9
      have he2 : C2.isEnc = C1.isEnc := by
        have e : (bitP (1 + t) 1 (farN n - 1) (C1, P1)).2.1 = C2 := by rw [hs2]
        rw [← e]
        exact bitP_enc _ _ _ _
      have HE2 := hid (he2.trans HE1.out)
      have HX9 := hid (And.intro hM9 (And.intro hK9 (And.intro hG9 hk9)))
      have hT2 : ifT C2 = T := by rw [← HT.out]; unfold ifT; rw [HE2.out]
      have hme4 := met_tree C2 x
      have hna4 := nil_tree C2 x
      have hcf4 := cf_tree C2
      rw [hT2] at hme4 hna4
      clear hb2 hs2 he2 hM9 hK9 hG9 hk9 h9 hme2 hna2 hcf2 hme3 hna3 hcf3
      have hval : C.isEnc = true → (min (farN n) 1 = b1 ∧ farN n - 1 = b2) := fun hc => by
        have e3 := bitP_val (1 + t) 0 (min (farN n) 1) (C, P) hc
        have e4 := bitP_val (1 + t) 1 (farN n - 1) (C1, P1) (HE1.out.trans hc)
        rw [HB1.out.1] at e3
        rw [HB2.out.1] at e4
        exact ⟨e3.symm, e4.symm⟩
      have HVal := hid hval
      clear hval
      by_cases hb0 : b2 = 0
      · have d1 : ((b2 : Int) == 0) = true := by simp; omega
        have hlc := HX9.out.1.mm.lcellAt t ht (2 + (16 + pl)) (by omega)
        rw [lcell_near L t (16 + pl) _ (by omega)] at hlc
        have HB20 := hid hb0
        have fw8 : IntKind.i64.wrap (n2 - 8) = n2 - 8 := IntWalk.i64_in _ (by omega)
        have ep : 2 + (16 + pl) = 18 + pl := by omega
        have ei : 22 + t * 32 + (16 + pl) = 22 + t * 32 + 16 + pl := by omega
        rw [ep, ei] at hlc
        have HEP := hid ep
        have HEI := hid ei
        clear hb0 ep ei
        go_upto_region 10 with fail
        refine wp_region_held_drew (S := (fun V => V.cell? ⟨L.φ (1 + t), 18 + pl, none⟩ = some (L.tree (22 + t * 32 + 16 + pl)))) (by kernel_rfl) (by (try dsimp only); exact hlc) (fun hHeld => ?_)
        refine wpAnyH_take (i := 0) (oi := ⟨some 58, _, _, _, _, _⟩) (v := ?v0d) rfl (by kernel_rfl) (by kernel_rfl) (by kernel_rfl) (fun _ _ _ h => h) (Or.inl ⟨by rfl, ?h0d⟩) (by assumption) ?r0d
        case h0d => intro w hSw; (try dsimp only at hSw); go_simp; (try with_reducible rfl)
        try simp only [Act.put, List.setIfInBounds_toArray, List.set_cons_zero, List.set_cons_succ]
        refine wpAnyH_take (i := 1) (oi := ⟨some 59, _, _, _, _, _⟩) (v := ?v1d) rfl (by kernel_rfl) (by kernel_rfl) (by kernel_rfl) (fun _ _ _ h => h) (Or.inl ⟨by rfl, ?h1d⟩) (by assumption) ?r1d
        case h1d => intro w hSw; (try dsimp only at hSw); go_simp; (try with_reducible rfl)
        try simp only [Act.put, List.setIfInBounds_toArray, List.set_cons_zero, List.set_cons_succ]
        refine wpAnyH_take (i := 2) (oi := ⟨some 60, _, _, _, _, _⟩) (v := ?v2d) rfl (by kernel_rfl) (by kernel_rfl) (by kernel_rfl) (fun _ _ _ h => h) (Or.inl ⟨by rfl, ?h2d⟩) (by assumption) ?r2d
        case h2d => intro w hSw; (try dsimp only at hSw); go_simp; (try with_reducible rfl)
        try simp only [Act.put, List.setIfInBounds_toArray, List.set_cons_zero, List.set_cons_succ]
        refine wpAnyH_take (i := 4) (oi := ⟨some 62, _, _, _, _, _⟩) (v := ?v4d) rfl (by kernel_rfl) (by kernel_rfl) (by kernel_rfl) (fun _ _ _ h => h) (Or.inl ⟨by rfl, ?h4d⟩) (by assumption) ?r4d
        case h4d => intro w hSw; (try dsimp only at hSw); go_simp; (try with_reducible rfl)
        try simp only [Act.put, List.setIfInBounds_toArray, List.set_cons_zero, List.set_cons_succ]
        refine wpAnyH_take (i := 5) (oi := ⟨some 63, _, _, _, _, _⟩) (v := ?v5d) rfl (by kernel_rfl) (by kernel_rfl) (by kernel_rfl) (fun _ _ _ h => h) (Or.inl ⟨by rfl, ?h5d⟩) (by assumption) ?r5d
        case h5d => intro w hSw; (try dsimp only at hSw); go_simp; (try with_reducible rfl)
        try simp only [Act.put, List.setIfInBounds_toArray, List.set_cons_zero, List.set_cons_succ]
        refine wpAnyH_take (i := 6) (oi := ⟨some 64, _, _, _, _, _⟩) (v := ?v6d) rfl (by kernel_rfl) (by kernel_rfl) (by kernel_rfl) (fun _ _ _ h => h) (Or.inl ⟨by rfl, ?h6d⟩) (by assumption) ?r6d
        case h6d => intro w hSw; (try dsimp only at hSw); go_simp; (try with_reducible rfl)
        try simp only [Act.put, List.setIfInBounds_toArray, List.set_cons_zero, List.set_cons_succ]
        refine wpAnyH_take (i := 9) (oi := ⟨some 67, _, _, _, _, _⟩) (v := ?v9d) rfl (by kernel_rfl) (by kernel_rfl) (by kernel_rfl) (fun _ _ _ h => h) (Or.inl ⟨by rfl, ?h9d⟩) (by assumption) ?r9d
        case h9d => intro w hSw; (try dsimp only at hSw); go_simp; (try with_reducible rfl)
        try simp only [Act.put, List.setIfInBounds_toArray, List.set_cons_zero, List.set_cons_succ]
        refine wpAnyH_take (i := 10) (oi := ⟨some 68, _, _, _, _, _⟩) (v := ?v10d) rfl (by kernel_rfl) (by kernel_rfl) (by kernel_rfl) (fun _ _ _ h => h) (Or.inl ⟨by rfl, ?h10d⟩) (by assumption) ?r10d
        case h10d => intro w hSw; (try dsimp only at hSw); go_simp; (try with_reducible rfl)
        try simp only [Act.put, List.setIfInBounds_toArray, List.set_cons_zero, List.set_cons_succ]
        refine wpAnyH_take (i := 11) (oi := ⟨some 69, _, _, _, _, _⟩) (v := ?v11d) rfl (by kernel_rfl) (by kernel_rfl) (by kernel_rfl) (fun _ _ _ h => h) (Or.inl ⟨by rfl, ?h11d⟩) (by assumption) ?r11d
        case h11d => intro w hSw; (try dsimp only at hSw); go_simp; (try with_reducible rfl)
        try simp only [Act.put, List.setIfInBounds_toArray, List.set_cons_zero, List.set_cons_succ]
        refine wpAnyH_take (i := 12) (oi := ⟨some 70, _, _, _, _, _⟩) (v := ?v12d) rfl (by kernel_rfl) (by kernel_rfl) (by kernel_rfl) (fun _ _ _ h => h) (Or.inl ⟨by rfl, ?h12d⟩) (by assumption) ?r12d
        case h12d => intro w hSw; (try dsimp only at hSw); go_simp; (try with_reducible rfl)
        try simp only [Act.put, List.setIfInBounds_toArray, List.set_cons_zero, List.set_cons_succ]
        refine wpAnyH_take (i := 13) (oi := ⟨some 71, _, _, _, _, _⟩) (v := ?v13d) rfl (by kernel_rfl) (by kernel_rfl) (by kernel_rfl) (fun _ _ _ h => h) (Or.inl ⟨by rfl, ?h13d⟩) (by assumption) ?r13d
        case h13d => intro w hSw; (try dsimp only at hSw); go_simp; (try with_reducible rfl)
        try simp only [Act.put, List.setIfInBounds_toArray, List.set_cons_zero, List.set_cons_succ]
        refine wpAnyH_ready (rs := [3]) (by kernel_rfl) (by simp) ?_
        refine AllReadyH.cons (o := ⟨some 61, _, _, _, _, _⟩) rfl (fun K hK => ?_) AllReadyH.nil
        go_simp; (go_at_call 85; refine (HPl.out _ _ (HX9.out.1.same ((Keeps.refl _ _).drew)).mm).mono ?_; rintro z w7 ⟨rfl, hs7⟩; have hM7 := (HX9.out.1.same ((Keeps.refl _ _).drew)).same hs7; have hl7 := hM7.mm.lcellAt t ht (2 + (16 + pl)) (by omega); rw [lcell_near L t (16 + pl) _ (by omega), HEP.out, HEI.out] at hl7)
        refine hK.out _ _ (by (try dsimp only); exact hl7) (fun hHeld => ?_)
        clear hK K
        try simp only [Act.put, List.setIfInBounds_toArray, List.set_cons_zero, List.set_cons_succ]
        refine wpAnyH_take (i := 7) (oi := ⟨some 65, _, _, _, _, _⟩) (v := ?v7d) rfl (by kernel_rfl) (by kernel_rfl) (by kernel_rfl) (fun _ _ _ h => h) (Or.inl ⟨by rfl, ?h7d⟩) (by assumption) ?r7d
        case h7d => intro w hSw; (try dsimp only at hSw); go_simp; (try with_reducible rfl)
        try simp only [Act.put, List.setIfInBounds_toArray, List.set_cons_zero, List.set_cons_succ]
        refine wpAnyH_take (i := 8) (oi := ⟨some 66, _, _, _, _, _⟩) (v := ?v8d) rfl (by kernel_rfl) (by kernel_rfl) (by kernel_rfl) (fun _ _ _ h => h) (Or.inl ⟨by rfl, ?h8d⟩) (by assumption) ?r8d
        case h8d => intro w hSw; (try dsimp only at hSw); go_simp; (try with_reducible rfl)
        try simp only [Act.put, List.setIfInBounds_toArray, List.set_cons_zero, List.set_cons_succ]
        refine wpAnyH_ready (rs := [14]) (by kernel_rfl) (by simp) ?_
        refine AllReadyH.cons (o := ⟨some 72, _, _, _, _, _⟩) rfl (fun K hK => ?_) AllReadyH.nil
        go_simp; refine (hM7.tree (i := 22 + t * 32 + 16 + pl) (n := 3) (h := n - 8) HX9.out.2.2.2 (by omega) (used_small (by omega) (by omega)) (by omega) (by rw [← HEI.out]; exact tree_near t (16 + pl) ht (by omega)) (by decide) (fun hc => by (have hc2 := HE2.out.symm.trans hc; obtain ⟨e1, e2⟩ := HE.out hc2; obtain ⟨e3, e4⟩ := HVal.out hc2; have e5 := HB0.out; have e6 := HB20.out; have e7 : 8 ≤ n ∧ n < 16 := (by revert e3 e4; unfold farN; split; omega; split <;> omega); omega))).mono ?_; intro z w8 h8; have HC8 := hid (MCall.pre hs7 h8); obtain ⟨rfl, F8, hM8, hK8, hG8, hk8⟩ := Coded.at h8; have hl8 := hM8.mm.lcellAt t ht (2 + (16 + pl)) (by omega); rw [lcell_near L t (16 + pl) _ (by omega), HEP.out, HEI.out] at hl8
        refine hK.out _ _ (by (try dsimp only); exact hl8) (fun hHeld => ?_)
        clear hK K
        try simp only [Act.put, List.setIfInBounds_toArray, List.set_cons_zero, List.set_cons_succ]
        refine wpAnyH_take (i := 15) (oi := ⟨some 73, _, _, _, _, _⟩) (v := ?v15d) rfl (by kernel_rfl) (by kernel_rfl) (by kernel_rfl) (fun _ _ _ h => h) (Or.inl ⟨by rfl, ?h15d⟩) (by assumption) ?r15d
        case h15d => intro w hSw; (try dsimp only at hSw); go_simp; (try with_reducible rfl)
        try simp only [Act.put, List.setIfInBounds_toArray, List.set_cons_zero, List.set_cons_succ]
        refine wpAnyH_take (i := 16) (oi := ⟨some 8, _, _, _, _, _⟩) (v := ?v16d) rfl (by kernel_rfl) (by kernel_rfl) (by kernel_rfl) (fun _ _ _ h => h) (Or.inl ⟨by rfl, ?h16d⟩) (by assumption) ?r16d
        case h16d => intro w hSw; (try dsimp only at hSw); go_simp; (try with_reducible rfl)
        try simp only [Act.put, List.setIfInBounds_toArray, List.set_cons_zero, List.set_cons_succ]
        refine wpAnyH_done (by kernel_rfl) ?_ _
        have hv := hM7.tree_lt (i := 22 + t * 32 + 16 + pl) (n := 3) (h := n - 8) (used_small (by omega) (by omega)) (by omega) (by rw [← HEI.out]; exact tree_near t (16 + pl) ht (by omega))
        have hr : R = (10 + (treeP (22 + t * 32 + 16 + pl) 3 (n - 8) (C2, P2)).1, (treeP (22 + t * 32 + 16 + pl) 3 (n - 8) (C2, P2)).2) := by
          rw [← HRR.out]
          unfold lengthP
          simp only [HB1.out.1, HB1.out.2]
          rw [if_neg HB0.out]
          simp only [HB2.out.1, HB2.out.2]
          rw [if_pos HB20.out]
        have hc := MCall.pre ((Keeps.refl _ wc).drew) (MCall.then HX6.out.2.1 HX6.out.2.2.1 (MCall.pre ((Keeps.refl _ w6).drew) (MCall.then HX9.out.2.1 HX9.out.2.2.1 (MCall.pre ((Keeps.refl _ w9).drew) HC8.out))))
        have HC := hid (And.intro hr hc)
        obtain ⟨v8, hv8⟩ : ∃ v8, (treeP (22 + t * 32 + 16 + pl) 3 (n - 8) (C2, P2)).1 = v8 := ⟨_, rfl⟩
        rw [hv8] at hv ⊢
        have HV := hid hv8
        have ew : IntKind.i64.wrap (10 + (v8 : Int)) = ((10 + v8 : Nat) : Int) := by rw [IntWalk.i64_in _ (by omega)]; omega
        rw [ew]
        clear hr hc hv8 h8 hM8 hK8 hG8 hk8 hl8 HC8 ew
        go_wp2_with fail
        go_ret
        obtain ⟨hr, hc⟩ := HC.out
        rw [hr]
        refine ⟨?_, hc.2.1, Nat.le_trans hc.2.2 (by omega)⟩
        show _ = Ending.returned (i6 ((10 + (treeP (22 + t * 32 + 16 + pl) 3 (n - 8) (C2, P2)).1 : Nat) : Int))
        rw [HV.out]
        rfl
      · have d1 : ((b2 : Int) == 0) = false := by simp; omega
        have hlc := HX9.out.1.mm.lcellAt t ht 34 (by omega)
        rw [lcell_far L t _] at hlc
        have HB20 := hid hb0
        have fw8 : IntKind.i64.wrap (n2 - 16) = n2 - 16 := IntWalk.i64_in _ (by omega)
        clear hb0
        go_upto_region 11 with fail
        refine wp_region_held_drew (S := (fun V => V.cell? ⟨L.φ (1 + t), 34, none⟩ = some (L.tree (86 + t)))) (by kernel_rfl) (by (try dsimp only); exact hlc) (fun hHeld => ?_)
        refine wpAnyH_take (i := 0) (oi := ⟨some 74, _, _, _, _, _⟩) (v := ?v0e) rfl (by kernel_rfl) (by kernel_rfl) (by kernel_rfl) (fun _ _ _ h => h) (Or.inl ⟨by rfl, ?h0e⟩) (by assumption) ?r0e
        case h0e => intro w hSw; (try dsimp only at hSw); go_simp; (try with_reducible rfl)
        try simp only [Act.put, List.setIfInBounds_toArray, List.set_cons_zero, List.set_cons_succ]
        refine wpAnyH_take (i := 1) (oi := ⟨some 75, _, _, _, _, _⟩) (v := ?v1e) rfl (by kernel_rfl) (by kernel_rfl) (by kernel_rfl) (fun _ _ _ h => h) (Or.inl ⟨by rfl, ?h1e⟩) (by assumption) ?r1e
        case h1e => intro w hSw; (try dsimp only at hSw); go_simp; (try with_reducible rfl)
        try simp only [Act.put, List.setIfInBounds_toArray, List.set_cons_zero, List.set_cons_succ]
        refine wpAnyH_take (i := 2) (oi := ⟨some 76, _, _, _, _, _⟩) (v := ?v2e) rfl (by kernel_rfl) (by kernel_rfl) (by kernel_rfl) (fun _ _ _ h => h) (Or.inl ⟨by rfl, ?h2e⟩) (by assumption) ?r2e
        case h2e => intro w hSw; (try dsimp only at hSw); go_simp; (try with_reducible rfl)
        try simp only [Act.put, List.setIfInBounds_toArray, List.set_cons_zero, List.set_cons_succ]
        refine wpAnyH_take (i := 3) (oi := ⟨some 77, _, _, _, _, _⟩) (v := ?v3e) rfl (by kernel_rfl) (by kernel_rfl) (by kernel_rfl) (fun _ _ _ h => h) (Or.inl ⟨by rfl, ?h3e⟩) (by assumption) ?r3e
        case h3e => intro w hSw; (try dsimp only at hSw); go_simp; (try with_reducible rfl)
        try simp only [Act.put, List.setIfInBounds_toArray, List.set_cons_zero, List.set_cons_succ]
        refine wpAnyH_take (i := 4) (oi := ⟨some 78, _, _, _, _, _⟩) (v := ?v4e) rfl (by kernel_rfl) (by kernel_rfl) (by kernel_rfl) (fun _ _ _ h => h) (Or.inl ⟨by rfl, ?h4e⟩) (by assumption) ?r4e
        case h4e => intro w hSw; (try dsimp only at hSw); go_simp; (try with_reducible rfl)
        try simp only [Act.put, List.setIfInBounds_toArray, List.set_cons_zero, List.set_cons_succ]
        refine wpAnyH_take (i := 5) (oi := ⟨some 79, _, _, _, _, _⟩) (v := ?v5e) rfl (by kernel_rfl) (by kernel_rfl) (by kernel_rfl) (fun _ _ _ h => h) (Or.inl ⟨by rfl, ?h5e⟩) (by assumption) ?r5e
        case h5e => intro w hSw; (try dsimp only at hSw); go_simp; (try with_reducible rfl)
        try simp only [Act.put, List.setIfInBounds_toArray, List.set_cons_zero, List.set_cons_succ]
        refine wpAnyH_take (i := 6) (oi := ⟨some 80, _, _, _, _, _⟩) (v := ?v6e) rfl (by kernel_rfl) (by kernel_rfl) (by kernel_rfl) (fun _ _ _ h => h) (Or.inl ⟨by rfl, ?h6e⟩) (by assumption) ?r6e
        case h6e => intro w hSw; (try dsimp only at hSw); go_simp; (try with_reducible rfl)
        try simp only [Act.put, List.setIfInBounds_toArray, List.set_cons_zero, List.set_cons_succ]
        refine wpAnyH_take (i := 7) (oi := ⟨some 81, _, _, _, _, _⟩) (v := ?v7e) rfl (by kernel_rfl) (by kernel_rfl) (by kernel_rfl) (fun _ _ _ h => h) (Or.inl ⟨by rfl, ?h7e⟩) (by assumption) ?r7e
        case h7e => intro w hSw; (try dsimp only at hSw); go_simp; (try with_reducible rfl)
        try simp only [Act.put, List.setIfInBounds_toArray, List.set_cons_zero, List.set_cons_succ]
        refine wpAnyH_take (i := 8) (oi := ⟨some 82, _, _, _, _, _⟩) (v := ?v8e) rfl (by kernel_rfl) (by kernel_rfl) (by kernel_rfl) (fun _ _ _ h => h) (Or.inl ⟨by rfl, ?h8e⟩) (by assumption) ?r8e
        case h8e => intro w hSw; (try dsimp only at hSw); go_simp; (try with_reducible rfl)
        try simp only [Act.put, List.setIfInBounds_toArray, List.set_cons_zero, List.set_cons_succ]
        refine wpAnyH_take (i := 9) (oi := ⟨some 83, _, _, _, _, _⟩) (v := ?v9e) rfl (by kernel_rfl) (by kernel_rfl) (by kernel_rfl) (fun _ _ _ h => h) (Or.inl ⟨by rfl, ?h9e⟩) (by assumption) ?r9e
        case h9e => intro w hSw; (try dsimp only at hSw); go_simp; (try with_reducible rfl)
        try simp only [Act.put, List.setIfInBounds_toArray, List.set_cons_zero, List.set_cons_succ]
        refine wpAnyH_ready (rs := [10]) (by kernel_rfl) (by simp) ?_
        refine AllReadyH.cons (o := ⟨some 84, _, _, _, _, _⟩) rfl (fun K hK => ?_) AllReadyH.nil
        go_simp; refine ((HX9.out.1.same ((Keeps.refl _ _).drew)).tree (i := 86 + t) (n := 8) (h := n - 16) HX9.out.2.2.2 (by omega) (used_small (by omega) (by omega)) (by omega) (tree_far t ht) (by decide) (fun hc => by (have hc2 := HE2.out.symm.trans hc; obtain ⟨e1, e2⟩ := HE.out hc2; obtain ⟨e3, e4⟩ := HVal.out hc2; have e5 := HB0.out; have e6 := HB20.out; have e8 := HH.out hc2; have e7 : 16 ≤ n := (by revert e4; unfold farN; split; omega; split <;> omega); omega))).mono ?_; intro z w8 h8; have HC8 := hid h8; obtain ⟨rfl, F8, hM8, hK8, hG8, hk8⟩ := Coded.at h8; have hl8 := hM8.mm.lcellAt t ht 34 (by omega); rw [lcell_far L t _] at hl8
        refine hK.out _ _ (by (try dsimp only); exact hl8) (fun hHeld => ?_)
        clear hK K
        try simp only [Act.put, List.setIfInBounds_toArray, List.set_cons_zero, List.set_cons_succ]
        refine wpAnyH_take (i := 11) (oi := ⟨some 85, _, _, _, _, _⟩) (v := ?v11e) rfl (by kernel_rfl) (by kernel_rfl) (by kernel_rfl) (fun _ _ _ h => h) (Or.inl ⟨by rfl, ?h11e⟩) (by assumption) ?r11e
        case h11e => intro w hSw; (try dsimp only at hSw); go_simp; (try with_reducible rfl)
        try simp only [Act.put, List.setIfInBounds_toArray, List.set_cons_zero, List.set_cons_succ]
        refine wpAnyH_take (i := 12) (oi := ⟨some 8, _, _, _, _, _⟩) (v := ?v12e) rfl (by kernel_rfl) (by kernel_rfl) (by kernel_rfl) (fun _ _ _ h => h) (Or.inl ⟨by rfl, ?h12e⟩) (by assumption) ?r12e
        case h12e => intro w hSw; (try dsimp only at hSw); go_simp; (try with_reducible rfl)
        try simp only [Act.put, List.setIfInBounds_toArray, List.set_cons_zero, List.set_cons_succ]
        refine wpAnyH_done (by kernel_rfl) ?_ _
        have hv := (HX9.out.1.same ((Keeps.refl _ _).drew)).tree_lt (i := 86 + t) (n := 8) (h := n - 16) (used_small (by omega) (by omega)) (by omega) (tree_far t ht)
        have hr : R = (18 + (treeP (86 + t) 8 (n - 16) (C2, P2)).1, (treeP (86 + t) 8 (n - 16) (C2, P2)).2) := by
          rw [← HRR.out]
          unfold lengthP
          simp only [HB1.out.1, HB1.out.2]
          rw [if_neg HB0.out]
          simp only [HB2.out.1, HB2.out.2]
          rw [if_neg HB20.out]
        have hc := MCall.pre ((Keeps.refl _ wc).drew) (MCall.then HX6.out.2.1 HX6.out.2.2.1 (MCall.pre ((Keeps.refl _ w6).drew) (MCall.then HX9.out.2.1 HX9.out.2.2.1 (MCall.pre ((Keeps.refl _ w9).drew) HC8.out))))
        have HC := hid (And.intro hr hc)
        obtain ⟨v8, hv8⟩ : ∃ v8, (treeP (86 + t) 8 (n - 16) (C2, P2)).1 = v8 := ⟨_, rfl⟩
        rw [hv8] at hv ⊢
        have HV := hid hv8
        have ew : IntKind.i64.wrap (18 + (v8 : Int)) = ((18 + v8 : Nat) : Int) := by rw [IntWalk.i64_in _ (by omega)]; omega
        rw [ew]
        clear hr hc hv8 h8 hM8 hK8 hG8 hk8 hl8 HC8 ew
        go_wp2_with fail
        go_ret
        obtain ⟨hr, hc⟩ := HC.out
        rw [hr]
        refine ⟨?_, hc.2.1, Nat.le_trans hc.2.2 (by omega)⟩
        show _ = Ending.returned (i6 ((18 + (treeP (86 + t) 8 (n - 16) (C2, P2)).1 : Nat) : Int))
        rw [HV.out]
        rfl
end Go.Proofs.YtalopgbkjgjppaaGreatDoor
