/- Part of a proof: Bh, Bn. -/
import Derived.Test.YtalopgbkjgjppaaGreatDoorGBs
/- The walk of hang. -/
namespace Go.Proofs.YtalopgbkjgjppaaGreatDoor
open Go.RowKit Go.Cas

def gof (g1 g2 : Nat) (b : Bool) : Nat := if b then g2 else g1

/-- What the closure makes of a place that is met. -/
def metF (i : Nat) (x : Nat × List (Nat × Nat)) (q : Nat × Nat) : Nat × List (Nat × Nat) := if x.1 < q.2 then (q.2, x.2 ++ [(q.2, i - q.1)]) else x

structure HS (w wx : World) (p : Nat) (s : List UInt8) (W : Int) (pl : Nat) (top : Int) (g1 g2 : Nat) (A : Rows2) (bB oB iB i best : Nat) (L : List (Nat × Nat)) (r : Option Addr) (rc : Nat) (r0 : Option Addr) : Prop where
  bf : BF wx p s W pl top g1 g2 A
  cs : CS wx bB oB iB i best L r rc
  dj : ∀ b, csF bB oB iB r b → b ≠ p ∧ b ≠ g1 ∧ b ≠ g2
  kp : Keeps (fun b => b = p ∨ b = g1 ∨ b = g2 ∨ csF bB oB iB r0 b) w wx
  hr : ∀ b, sblk r b → sblk r0 b ∨ w.heap.size ≤ b

theorem BF.keeps {S : Nat → Prop} {w w' : World} {p : Nat} {s : List UInt8} {W : Int} {pl : Nat} {top : Int} {g1 g2 : Nat} {A : Rows2} (h : BF w p s W pl top g1 g2 A) (k : Keeps S w w') (hn : ∀ b, b = p ∨ b = g1 ∨ b = g2 → ¬ S b) : BF w' p s W pl top g1 g2 A :=
  ⟨h.blk.keeps k (hn _ (.inl rfl)), h.r1.keeps k (hn _ (.inr (.inl rfl))), h.r2.keeps k (hn _ (.inr (.inr rfl))), h.n1, h.n2, h.n3⟩

theorem BF.at {w : World} {p : Nat} {s : List UInt8} {W : Int} {pl : Nat} {top : Int} {g1 g2 : Nat} {A : Rows2} (h : BF w p s W pl top g1 g2 A) (b : Bool) (j : Nat) (hj : j < s.length) : w.cell? ⟨gof g1 g2 b, j, none⟩ = some (i6 (A (b, j))) ∧ w.frozen? ⟨gof g1 g2 b, j, none⟩ = false ∧ gof g1 g2 b < w.heap.size := by
  cases b
  · exact ⟨(h.r1.cell j).trans (rowC_get A false s.length j hj), h.r1.frozen j, h.r1.lt⟩
  · exact ⟨(h.r2.cell j).trans (rowC_get A true s.length j hj), h.r2.frozen j, h.r2.lt⟩

theorem BF.put {w : World} {p : Nat} {s : List UInt8} {W : Int} {pl : Nat} {top : Int} {g1 g2 : Nat} {A : Rows2} (h : BF w p s W pl top g1 g2 A) (c : Bool × Nat) (v : Int) : BF (w.setCell ⟨gof g1 g2 c.1, c.2, none⟩ (i6 v)) p s W pl top g1 g2 (A.put c v) := by
  obtain ⟨b, j⟩ := c
  cases b
  · refine ⟨h.blk.setOther (p := ⟨g1, j, none⟩) h.n1 _, ?_, ?_, h.n1, h.n2, h.n3⟩
    · rw [← rowC_put]; exact h.r1.set j (i6 v)
    · rw [rowC_other _ _ _ _ _ (by simp)]; exact h.r2.setOther (p := ⟨g1, j, none⟩) (fun e => h.n3 e.symm) _
  · refine ⟨h.blk.setOther (p := ⟨g2, j, none⟩) h.n2 _, ?_, ?_, h.n1, h.n2, h.n3⟩
    · rw [rowC_other _ _ _ _ _ (by simp)]; exact h.r1.setOther (p := ⟨g2, j, none⟩) h.n3 _
    · rw [← rowC_put]; exact h.r2.set j (i6 v)

theorem gof_mem (g1 g2 : Nat) (b : Bool) : gof g1 g2 b = g1 ∨ gof g1 g2 b = g2 := by cases b <;> simp [gof]

section
variable {w wx w' : World} {p : Nat} {s : List UInt8} {W : Int} {pl : Nat} {top : Int} {g1 g2 : Nat} {A : Rows2} {bB oB iB i best : Nat} {L : List (Nat × Nat)} {r : Option Addr} {rc : Nat} {r0 : Option Addr}

theorem HS.same (h : HS w wx p s W pl top g1 g2 A bB oB iB i best L r rc r0) (k : Same wx w') : HS w w' p s W pl top g1 g2 A bB oB iB i best L r rc r0 :=
  ⟨h.bf.keeps k (fun _ _ h => h), h.cs.keeps k (fun _ _ h => h), h.dj, h.kp.trans' k fun _ _ h => h.elim, h.hr⟩

theorem HS.put (h : HS w wx p s W pl top g1 g2 A bB oB iB i best L r rc r0) (c : Bool × Nat) (v : Int) : HS w (wx.setCell ⟨gof g1 g2 c.1, c.2, none⟩ (i6 v)) p s W pl top g1 g2 (A.put c v) bB oB iB i best L r rc r0 := by
  have K : Keeps (fun b => b = gof g1 g2 c.1) wx (wx.setCell ⟨gof g1 g2 c.1, c.2, none⟩ (i6 v)) := Keeps.setCell (p := ⟨gof g1 g2 c.1, c.2, none⟩) (Keeps.refl (fun b => b = gof g1 g2 c.1) wx) (fun _ => rfl) _
  have hg := gof_mem g1 g2 c.1
  refine ⟨h.bf.put c v, h.cs.keeps K (fun b hb e => ?_), h.dj, h.kp.trans' K (fun b _ e => ?_), h.hr⟩
  · have := h.dj b hb; omega
  · rcases hg with hg | hg
    · exact .inr (.inl (e.trans hg))
    · exact .inr (.inr (.inl (e.trans hg)))

theorem HS.met {best2 : Nat} {L2 : List (Nat × Nat)} (h : HS w wx p s W pl top g1 g2 A bB oB iB i best L r rc r0) (k : MetLeft bB oB iB i best2 L2 r wx w') : ∃ r' rc', HS w w' p s W pl top g1 g2 A bB oB iB i best2 L2 r' rc' r0 := by
  obtain ⟨r', rc', hc, hk, hq⟩ := k
  have hz := h.kp.size
  refine ⟨r', rc', h.bf.keeps hk (fun b hb e => ?_), hc, ?_, h.kp.trans' hk (fun b hb e => ?_), ?_⟩
  · have := h.dj b e; omega
  · intro b e
    rcases e with e | e | e | e
    · exact h.dj b (.inl e)
    · exact h.dj b (.inr (.inl e))
    · exact h.dj b (.inr (.inr (.inl e)))
    · rcases hq b e with e | e
      · exact h.dj b (.inr (.inr (.inr e)))
      · have h1 := h.bf.blk.lt
        have h2 := h.bf.r1.lt
        have h3 := h.bf.r2.lt
        omega
  · rcases e with e | e | e | e
    · exact .inr (.inr (.inr (.inl e)))
    · exact .inr (.inr (.inr (.inr (.inl e))))
    · exact .inr (.inr (.inr (.inr (.inr (.inl e)))))
    · rcases h.hr b e with e | e
      · exact .inr (.inr (.inr (.inr (.inr (.inr e)))))
      · omega
  · intro b e
    rcases hq b e with e | e
    · exact h.hr b e
    · exact .inr (by omega)
end

/-- What hang leaves. -/
def HungLeft (w w' : World) (p : Nat) (s : List UInt8) (W : Int) (pl : Nat) (g1 g2 : Nat) (R : Rows2 × List (Nat × Nat)) (bB oB iB i : Nat) (x0 : Nat × List (Nat × Nat)) (r0 : Option Addr) : Prop :=
  ∃ r rc, HS w w' p s W pl i g1 g2 R.1 bB oB iB i (R.2.foldl (metF i) x0).1 (R.2.foldl (metF i) x0).2 r rc r0

def TakenS (p : Nat) (s : List UInt8) (W : Int) (pl i g1 g2 kn : Nat) (x y : Int) (V : World) : Prop := ∃ A2, BF V p s W pl i g1 g2 A2 ∧ A2 (false, kn) = x ∧ A2 (true, kn) = y

theorem TakenS.drew {p : Nat} {s : List UInt8} {W : Int} {pl i g1 g2 kn : Nat} {x y : Int} {V : World} (h : TakenS p s W pl i g1 g2 kn x y V) : TakenS p s W pl i g1 g2 kn x y V.drew :=
  ⟨h.choose, h.choose_spec.1.keeps (Keeps.refl (fun _ => False) V).drew (fun _ _ h => h), h.choose_spec.2⟩

set_option maxHeartbeats 4000000 in
set_option maxRecDepth 100000 in
theorem hang_any (p : Nat) (s : List UInt8) (W : Int) (pl : Nat) (top : Int) (g1 g2 : Nat) (A : Rows2) (bB oB iB i best : Nat) (L : List (Nat × Nat)) (r : Option Addr) (rc : Nat) (w : World)
    (h : HS w w p s W pl top g1 g2 A bB oB iB i best L r rc r) (hi : i < s.length) (hs : s.length ≤ 1000000) (htop : -1 ≤ top ∧ top < i) (hA : ∀ b j, j < i → -1 ≤ A (b, j) ∧ A (b, j) < j) (hL : L.length = 0) :
    Calls Tryz.prog 72 #[.pointer (some ⟨p, 0, none⟩), i6 i, .func (.func 73) #[] #[.pointer (some ⟨bB, 0, none⟩), .pointer (some ⟨oB, 0, none⟩), .pointer (some ⟨iB, 0, none⟩)]] w fun z w' => z = .returned (.tuple #[]) ∧
      HungLeft w w' p s W pl g1 g2 (hangRun s i W (i + 1) A (false, i) (true, i) top []) bB oB iB i (best, L) r := by
  have c0 := h.bf.blk.cell 0
  have c3 := h.bf.blk.cell 3
  have c4 := h.bf.blk.cell 4
  have c5 := h.bf.blk.cell 5
  have cf := h.bf.blk.frozen 3
  have cl := h.bf.blk.lt
  simp only [List.getElem?_toArray, List.getElem?_cons_succ, List.getElem?_cons_zero] at c0 c3 c4 c5
  have hii : (i : Int) < (s.length : Int) := by omega
  go_enter Tryz.func72, Tryz.ntmps72
  go_upto_region 0 with fail
  go_quiet (fail)
  have hlim : (if 273 < (s.length : Int) - i then 273 else (s.length : Int) - i) = ((lim s i : Nat) : Int) := by unfold lim; split <;> omega
  go_upto_region 2 with fail
  clear hlim
  have h0 : HS w ((w.drewN nq).setCell ⟨p, 3, none⟩ (i6 i)) p s W pl i g1 g2 A bB oB iB i best L r rc r := by
    have K : Keeps (fun b => b = p) w ((w.drewN nq).setCell ⟨p, 3, none⟩ (i6 i)) := Keeps.setCell (p := ⟨p, 3, none⟩) ((Keeps.refl (fun b => b = p) w).drewN nq) (fun _ => rfl) _
    refine ⟨⟨?_, h.bf.r1.keeps K (fun e => h.bf.n1 e.symm), h.bf.r2.keeps K (fun e => h.bf.n2 e.symm), h.bf.n1, h.bf.n2, h.bf.n3⟩, h.cs.keeps K (fun b hb e => (h.dj b hb).1 e), h.dj, K.mono fun b _ e => .inl e, h.hr⟩
    have := (h.bf.blk.keeps ((Keeps.refl (fun _ => False) w).drewN nq) (fun h => h)).set 3 (i6 i)
    simpa using this
  have HR0 := hid (rfl : hangRun s i W (i + 1) A (false, i) (true, i) top [] = hangRun s i W (i + 1) A (false, i) (true, i) top [])
  have hx0 : (best, L) = ([] : List (Nat × Nat)).foldl (metF i) (best, L) := rfl
  obtain ⟨R, hR⟩ : ∃ R, hangRun s i W (i + 1) A (false, i) (true, i) top [] = R := ⟨_, rfl⟩
  have HRR := hid hR
  go_wp2_with fail
  clear c0 c3 c4 c5 cf HR0
  go_loopw [6, 7, 9] (fun l6 m7 kk wx => ∃ (A' : Rows2) (lp mp : Bool × Nat) (k : Int) (v : List (Nat × Nat)) (best' : Nat) (L' : List (Nat × Nat)) (r' : Option Addr) (rc' f : Nat), l6 = .pointer (some ⟨gof g1 g2 lp.1, lp.2, none⟩) ∧ m7 = .pointer (some ⟨gof g1 g2 mp.1, mp.2, none⟩) ∧ kk = i6 k ∧
      HS w wx p s W pl i g1 g2 A' bB oB iB i best' L' r' rc' r ∧ hangRun s i W f A' lp mp k v = R ∧ (best', L') = v.foldl (metF i) (best, L) ∧ -1 ≤ k ∧ k < lp.2 ∧ k < mp.2 ∧ lp.2 ≤ i ∧ mp.2 ≤ i ∧ k < f ∧ (∀ (b : Bool) (j : Nat), (j : Int) ≤ k → -1 ≤ A' (b, j) ∧ A' (b, j) < j) ∧ (L'.length : Int) + k ≤ i) (fun _ _ kk _ => (intOf kk + 1).toNat)
  case atStart =>
    exact ⟨A, (false, i), (true, i), top, [], best, L, r, rc, i + 1, rfl, rfl, rfl, h0, hR, hx0, htop.1, htop.2, htop.2, Nat.le_refl _, Nat.le_refl _, by omega, fun b j hj => hA b j (by omega), by omega⟩
  case round =>
    clear h0 hx0
    obtain ⟨A', lp, mp, k, v, best', L', r', rc', f, rfl, rfl, rfl, hS, hrun, hfold, hk1, hkl, hkm, hli, hmi, hkf, hA', hLk⟩ := hrel
    have c0 := hS.bf.blk.cell 0
    have c1 := hS.bf.blk.cell 1
    simp only [List.getElem?_toArray, List.getElem?_cons_succ, List.getElem?_cons_zero] at c0 c1
    obtain ⟨lc, lf, ll⟩ := hS.bf.at lp.1 lp.2 (by omega)
    obtain ⟨mc, mf, ml⟩ := hS.bf.at mp.1 mp.2 (by omega)
    by_cases hcond : k ≠ -1 ∧ (i : Int) - k ≤ W
    · obtain ⟨hkne, hkw⟩ := hcond
      obtain ⟨kn, rfl⟩ : ∃ kn : Nat, k = kn := ⟨k.toNat, by omega⟩
      obtain ⟨f', rfl⟩ : ∃ f', f = f' + 1 := ⟨f - 1, by omega⟩
      rw [hangRun, if_pos ⟨hkne, hkw⟩] at hrun
      simp only [Int.toNat_natCast] at hrun
      have hki : kn < i := by omega
      have hq1 : (true, kn) ≠ lp := fun e => by have e2 : kn = lp.2 := congrArg Prod.snd e; omega
      have hq3 : (false, kn) ≠ lp := fun e => by have e2 : kn = lp.2 := congrArg Prod.snd e; omega
      have hq4 : (true, kn) ≠ mp := fun e => by have e2 : kn = mp.2 := congrArg Prod.snd e; omega
      have hq2 : (false, kn) ≠ mp := fun e => by have e2 : kn = mp.2 := congrArg Prod.snd e; omega
      have hnl := ali_le_lim s kn i
      have hn2 := aliN_le s kn i
      have hli2 : lim s i ≤ s.length - i := by unfold lim; omega
      have HA := hid (fun w0 => alike_any s kn i w0 hki (by omega) hs)
      have HM := hid (fun w0 h0 => met_any kn (aliN s kn i) bB oB iB i best' rc' L' r' w0 h0 (by omega) (by omega) (by omega))
      have hwr : IntKind.i64.wrap ((i : Int) - kn) = (i : Int) - kn := IntWalk.i64_in _ (by omega)
      have hw1 : decide ((i : Int) - (kn : Int) ≤ W) = true := by simpa using hkw
      have hk0 : ((kn : Int) != -1) = true := by simp
      have hz1 := hA' false kn (Int.le_refl _)
      have hz2 := hA' true kn (Int.le_refl _)
      have HA2 := hid hA'
      have HFO := hid hfold
      have hmS : metF i (best', L') (kn, aliN s kn i) = (if best' < aliN s kn i then aliN s kn i else best', if best' < aliN s kn i then L' ++ [(aliN s kn i, i - kn)] else L') := by unfold metF; split <;> rfl
      have HMS := hid hmS
      have hcg : kn < s.length := by omega
      clear hA' hfold hkw hkne hmS
      generalize aliN s kn i = n at *
      have HF2 : Hid (((if best' < n then n else best'), (if best' < n then L' ++ [(n, i - kn)] else L')) = (v ++ [(kn, n)]).foldl (metF i) (best, L)) := hid (by rw [List.foldl_append, ← HFO.out]; exact HMS.out.symm)
      have hLL : (if best' < n then L' ++ [(n, i - kn)] else L').length ≤ L'.length + 1 := by split <;> simp
      clear HMS HFO
      by_cases hnl2 : lim s i ≤ n
      · rw [if_pos hnl2] at hrun
        have HRN := hid hrun
        clear hrun
        have d1 : decide ((lim s i : Int) ≤ (n : Int)) = true := by simpa using hnl2
        have d2 : decide ((n : Int) ≥ (lim s i : Int)) = true := by simpa using hnl2
        go_wp2_with (first | (go_at_call 77; refine (HA.out _).mono ?_; rintro z w4 ⟨rfl, hs4⟩; have hS4 := hS.same hs4) | (go_at_call 73; refine (HM.out _ hS4.cs).mono ?_; rintro z w5 ⟨rfl, hM5⟩; obtain ⟨r5, rc5, hS5⟩ := hS4.met hM5; have d0 := hS5.bf.blk.cell 0; have d4 := hS5.bf.blk.cell 4; have d5 := hS5.bf.blk.cell 5; obtain ⟨e1, e2, e3⟩ := hS5.bf.at false kn hcg; obtain ⟨e4, e5, e6⟩ := hS5.bf.at true kn hcg; obtain ⟨e7, e8, e9⟩ := hS5.bf.at lp.1 lp.2 (by omega); obtain ⟨e10, e11, e12⟩ := hS5.bf.at mp.1 mp.2 (by omega); simp only [List.getElem?_toArray, List.getElem?_cons_succ, List.getElem?_cons_zero] at d0 d4 d5; simp only [gof, Bool.false_eq_true, if_false, if_true] at e1 e2 e3 e4 e5 e6))
        obtain ⟨x1, x2, x3⟩ := (hS5.put lp (A' (false, kn))).bf.at mp.1 mp.2 (by omega)
        have HT0 := hid (show TakenS p s W pl i g1 g2 kn (A' (false, kn)) (A' (true, kn)) w5.drew from ⟨A', hS5.bf.keeps (Keeps.refl (fun _ => False) w5).drew (fun _ _ h => h), rfl, rfl⟩)
        have HT1 := hid (show TakenS p s W pl i g1 g2 kn (A' (false, kn)) (A' (true, kn)) (w5.setCell ⟨gof g1 g2 lp.1, lp.2, none⟩ (i6 (A' (false, kn)))) from ⟨_, hS5.bf.put lp _, put_other _ _ hq3, put_other _ _ hq1⟩)
        have HT2 := hid (show TakenS p s W pl i g1 g2 kn (A' (false, kn)) (A' (true, kn)) ((w5.setCell ⟨gof g1 g2 lp.1, lp.2, none⟩ (i6 (A' (false, kn)))).setCell ⟨gof g1 g2 mp.1, mp.2, none⟩ (i6 (A' (true, kn)))) from ⟨_, (hS5.bf.put lp _).put mp _, (put_other _ _ hq2).trans (put_other _ _ hq3), (put_other _ _ hq4).trans (put_other _ _ hq1)⟩)
        have HLT : Hid (HungLeft w ((w5.setCell ⟨gof g1 g2 lp.1, lp.2, none⟩ (i6 (A' (false, kn)))).setCell ⟨gof g1 g2 mp.1, mp.2, none⟩ (i6 (A' (true, kn)))).drew p s W pl g1 g2 R bB oB iB i (best, L) r) := hid ⟨r5, rc5, by rw [← HRN.out]; show HS _ _ _ _ _ _ _ _ _ _ _ _ _ _ ((v ++ [(kn, n)]).foldl (metF i) (best, L)).1 ((v ++ [(kn, n)]).foldl (metF i) (best, L)).2 _ _ _; rw [← HF2.out]; exact ((hS5.put lp (A' (false, kn))).put mp (A' (true, kn))).same (Keeps.refl _ _).drew⟩
        refine wp_region_held_drew (S := TakenS p s W pl i g1 g2 kn (A' (false, kn)) (A' (true, kn))) (by kernel_rfl) (by (try dsimp only); first | exact HT0.out | exact HT1.out.drew | exact HT2.out.drew) (fun hHeld => ?_)
        refine wpAnyH_take (i := 0) (oi := ⟨some 82, _, _, _, _, _⟩) (v := ?v0t) rfl (by kernel_rfl) (by kernel_rfl) (by kernel_rfl) (fun _ _ _ h => h) (Or.inl ⟨by rfl, ?h0t⟩) (by assumption) ?r0t
        case h0t => intro w hSw; (try dsimp only at hSw); go_simp; (try with_reducible rfl)
        try simp only [Act.put, List.setIfInBounds_toArray, List.set_cons_zero, List.set_cons_succ]
        refine wpAnyH_take (i := 1) (oi := ⟨some 83, _, _, _, _, _⟩) (v := ?v1t) rfl (by kernel_rfl) (by kernel_rfl) (by kernel_rfl) (fun _ _ _ h => h) (Or.inl ⟨by rfl, ?h1t⟩) (by assumption) ?r1t
        case h1t => intro w hSw; (try dsimp only at hSw); go_simp; (try with_reducible rfl)
        try simp only [Act.put, List.setIfInBounds_toArray, List.set_cons_zero, List.set_cons_succ]
        refine wpAnyH_take (i := 2) (oi := ⟨some 84, _, _, _, _, _⟩) (v := ?v2t) rfl (by kernel_rfl) (by kernel_rfl) (by kernel_rfl) (fun _ _ _ h => h) (Or.inl ⟨by rfl, ?h2t⟩) (by assumption) ?r2t
        case h2t => intro w hSw; (try dsimp only at hSw); go_simp; (try with_reducible rfl)
        try simp only [Act.put, List.setIfInBounds_toArray, List.set_cons_zero, List.set_cons_succ]
        refine wpAnyH_take (i := 3) (oi := ⟨some 85, _, _, _, _, _⟩) (v := ?v3t) rfl (by kernel_rfl) (by kernel_rfl) (by kernel_rfl) (fun _ _ _ h => h) (Or.inl ⟨by rfl, ?h3t⟩) (by assumption) ?r3t
        case h3t => intro w hSw; (try dsimp only at hSw); go_simp; (try with_reducible rfl)
        try simp only [Act.put, List.setIfInBounds_toArray, List.set_cons_zero, List.set_cons_succ]
        refine wpAnyH_take (i := 4) (oi := ⟨some 86, _, _, _, _, _⟩) (v := ?v4t) rfl (by kernel_rfl) (by kernel_rfl) (by kernel_rfl) (fun _ _ _ h => h) (Or.inl ⟨by rfl, ?h4t⟩) (by assumption) ?r4t
        case h4t => intro w hSw; (try dsimp only at hSw); go_simp; (try with_reducible rfl)
        try simp only [Act.put, List.setIfInBounds_toArray, List.set_cons_zero, List.set_cons_succ]
        refine wpAnyH_take (i := 5) (oi := ⟨some 87, _, _, _, _, _⟩) (v := ?v5t) rfl (by kernel_rfl) (by kernel_rfl) (by kernel_rfl) (fun _ _ _ h => h) (Or.inl ⟨by rfl, ?h5t⟩) (by assumption) ?r5t
        case h5t => intro w hSw; (try dsimp only at hSw); obtain ⟨A2, hB2, hy1, hy2⟩ := hSw; have q4 := hB2.blk.cell 4; have q5 := hB2.blk.cell 5; have q6 := (hB2.at false kn hcg).1; have q7 := (hB2.at true kn hcg).1; rw [hy1] at q6; rw [hy2] at q7; simp only [List.getElem?_toArray, List.getElem?_cons_succ, List.getElem?_cons_zero] at q4 q5; simp only [gof, Bool.false_eq_true, if_false, if_true] at q6 q7; go_simp; (try with_reducible rfl)
        try simp only [Act.put, List.setIfInBounds_toArray, List.set_cons_zero, List.set_cons_succ]
        refine wpAnyH_take (i := 6) (oi := ⟨some 88, _, _, _, _, _⟩) (v := ?v6t) rfl (by kernel_rfl) (by kernel_rfl) (by kernel_rfl) (fun _ _ _ h => h) (Or.inl ⟨by rfl, ?h6t⟩) (by assumption) ?r6t
        case h6t => intro w hSw; (try dsimp only at hSw); go_simp; (try with_reducible rfl)
        try simp only [Act.put, List.setIfInBounds_toArray, List.set_cons_zero, List.set_cons_succ]
        refine wpAnyH_take (i := 7) (oi := ⟨some 89, _, _, _, _, _⟩) (v := ?v7t) rfl (by kernel_rfl) (by kernel_rfl) (by kernel_rfl) (fun _ _ _ h => h) (Or.inl ⟨by rfl, ?h7t⟩) (by assumption) ?r7t
        case h7t => intro w hSw; (try dsimp only at hSw); go_simp; (try with_reducible rfl)
        try simp only [Act.put, List.setIfInBounds_toArray, List.set_cons_zero, List.set_cons_succ]
        refine wpAnyH_take (i := 8) (oi := ⟨some 90, _, _, _, _, _⟩) (v := ?v8t) rfl (by kernel_rfl) (by kernel_rfl) (by kernel_rfl) (fun _ _ _ h => h) (Or.inl ⟨by rfl, ?h8t⟩) (by assumption) ?r8t
        case h8t => intro w hSw; (try dsimp only at hSw); obtain ⟨A2, hB2, hy1, hy2⟩ := hSw; have q4 := hB2.blk.cell 4; have q5 := hB2.blk.cell 5; have q6 := (hB2.at false kn hcg).1; have q7 := (hB2.at true kn hcg).1; rw [hy1] at q6; rw [hy2] at q7; simp only [List.getElem?_toArray, List.getElem?_cons_succ, List.getElem?_cons_zero] at q4 q5; simp only [gof, Bool.false_eq_true, if_false, if_true] at q6 q7; go_simp; (try with_reducible rfl)
        try simp only [Act.put, List.setIfInBounds_toArray, List.set_cons_zero, List.set_cons_succ]
        refine wpAnyH_take (i := 9) (oi := ⟨some 91, _, _, _, _, _⟩) (v := ?v9t) rfl (by kernel_rfl) (by kernel_rfl) (by kernel_rfl) (fun _ _ _ h => h) (Or.inl ⟨by rfl, ?h9t⟩) (by assumption) ?r9t
        case h9t => intro w hSw; (try dsimp only at hSw); go_simp; (try with_reducible rfl)
        try simp only [Act.put, List.setIfInBounds_toArray, List.set_cons_zero, List.set_cons_succ]
        refine wpAnyH_take (i := 10) (oi := ⟨some 92, _, _, _, _, _⟩) (v := ?v10t) rfl (by kernel_rfl) (by kernel_rfl) (by kernel_rfl) (fun _ _ _ h => h) (Or.inl ⟨by rfl, ?h10t⟩) (by assumption) ?r10t
        case h10t => intro w hSw; (try dsimp only at hSw); go_simp; (try with_reducible rfl)
        try simp only [Act.put, List.setIfInBounds_toArray, List.set_cons_zero, List.set_cons_succ]
        refine wpAnyH_take (i := 11) (oi := ⟨some 93, _, _, _, _, _⟩) (v := ?v11t) rfl (by kernel_rfl) (by kernel_rfl) (by kernel_rfl) (fun _ _ _ h => h) (Or.inl ⟨by rfl, ?h11t⟩) (by assumption) ?r11t
        case h11t => intro w hSw; (try dsimp only at hSw); go_simp; (try with_reducible rfl)
        try simp only [Act.put, List.setIfInBounds_toArray, List.set_cons_zero, List.set_cons_succ]
        refine wpAnyH_take (i := 12) (oi := ⟨some 94, _, _, _, _, _⟩) (v := ?v12t) rfl (by kernel_rfl) (by kernel_rfl) (by kernel_rfl) (fun _ _ _ h => h) (Or.inl ⟨by rfl, ?h12t⟩) (by assumption) ?r12t
        case h12t => intro w hSw; (try dsimp only at hSw); obtain ⟨A2, hB2, hy1, hy2⟩ := hSw; have q4 := hB2.blk.cell 4; have q5 := hB2.blk.cell 5; have q6 := (hB2.at false kn hcg).1; have q7 := (hB2.at true kn hcg).1; rw [hy1] at q6; rw [hy2] at q7; simp only [List.getElem?_toArray, List.getElem?_cons_succ, List.getElem?_cons_zero] at q4 q5; simp only [gof, Bool.false_eq_true, if_false, if_true] at q6 q7; go_simp; (try with_reducible rfl)
        try simp only [Act.put, List.setIfInBounds_toArray, List.set_cons_zero, List.set_cons_succ]
        refine wpAnyH_take (i := 13) (oi := ⟨some 95, _, _, _, _, _⟩) (v := ?v13t) rfl (by kernel_rfl) (by kernel_rfl) (by kernel_rfl) (fun _ _ _ h => h) (Or.inl ⟨by rfl, ?h13t⟩) (by assumption) ?r13t
        case h13t => intro w hSw; (try dsimp only at hSw); go_simp; (try with_reducible rfl)
        try simp only [Act.put, List.setIfInBounds_toArray, List.set_cons_zero, List.set_cons_succ]
        refine wpAnyH_take (i := 14) (oi := ⟨some 96, _, _, _, _, _⟩) (v := ?v14t) rfl (by kernel_rfl) (by kernel_rfl) (by kernel_rfl) (fun _ _ _ h => h) (Or.inl ⟨by rfl, ?h14t⟩) (by assumption) ?r14t
        case h14t => intro w hSw; (try dsimp only at hSw); go_simp; (try with_reducible rfl)
        try simp only [Act.put, List.setIfInBounds_toArray, List.set_cons_zero, List.set_cons_succ]
        refine wpAnyH_take (i := 15) (oi := ⟨some 97, _, _, _, _, _⟩) (v := ?v15t) rfl (by kernel_rfl) (by kernel_rfl) (by kernel_rfl) (fun _ _ _ h => h) (Or.inl ⟨by rfl, ?h15t⟩) (by assumption) ?r15t
        case h15t => intro w hSw; (try dsimp only at hSw); obtain ⟨A2, hB2, hy1, hy2⟩ := hSw; have q4 := hB2.blk.cell 4; have q5 := hB2.blk.cell 5; have q6 := (hB2.at false kn hcg).1; have q7 := (hB2.at true kn hcg).1; rw [hy1] at q6; rw [hy2] at q7; simp only [List.getElem?_toArray, List.getElem?_cons_succ, List.getElem?_cons_zero] at q4 q5; simp only [gof, Bool.false_eq_true, if_false, if_true] at q6 q7; go_simp; (try with_reducible rfl)
        try simp only [Act.put, List.setIfInBounds_toArray, List.set_cons_zero, List.set_cons_succ]
        refine wpAnyH_take (i := 16) (oi := ⟨some 98, _, _, _, _, _⟩) (v := ?v16t) rfl (by kernel_rfl) (by kernel_rfl) (by kernel_rfl) (fun _ _ _ h => h) (Or.inl ⟨by rfl, ?h16t⟩) (by assumption) ?r16t
        case h16t => intro w hSw; (try dsimp only at hSw); go_simp; (try with_reducible rfl)
        try simp only [Act.put, List.setIfInBounds_toArray, List.set_cons_zero, List.set_cons_succ]
        refine wpAnyH_ready (rs := [17]) (by kernel_rfl) (by simp) ?_
        refine AllReadyH.cons (o := ⟨none, _, _, _, _, _⟩) rfl (fun K hK => ?_) AllReadyH.nil
        go_simp
        refine hK.out _ _ (by (try dsimp only); first | exact HT0.out | exact HT1.out.drew | exact HT2.out.drew) (fun hHeld => ?_)
        clear hK K
        try simp only [Act.put, List.setIfInBounds_toArray, List.set_cons_zero, List.set_cons_succ]
        refine wpAnyH_take (i := 18) (oi := ⟨some 99, _, _, _, _, _⟩) (v := ?v18t) rfl (by kernel_rfl) (by kernel_rfl) (by kernel_rfl) (fun _ _ _ h => h) (Or.inl ⟨by rfl, ?h18t⟩) (by assumption) ?r18t
        case h18t => intro w hSw; (try dsimp only at hSw); go_simp; (try with_reducible rfl)
        try simp only [Act.put, List.setIfInBounds_toArray, List.set_cons_zero, List.set_cons_succ]
        refine wpAnyH_ready (rs := [19]) (by kernel_rfl) (by simp) ?_
        refine AllReadyH.cons (o := ⟨none, _, _, _, _, _⟩) rfl (fun K hK => ?_) AllReadyH.nil
        go_simp
        refine hK.out _ _ (by (try dsimp only); first | exact HT0.out | exact HT1.out.drew | exact HT2.out.drew) (fun hHeld => ?_)
        clear hK K
        try simp only [Act.put, List.setIfInBounds_toArray, List.set_cons_zero, List.set_cons_succ]
        refine wpAnyH_done (by kernel_rfl) ?_ _
        go_wp2_with fail
        refine bodyPost_ret (results_none rfl _ _ _) rfl ?_
        exact ⟨rfl, by rw [HRR.out]; exact HLT.out⟩
      · rw [if_neg hnl2] at hrun
        have d1 : decide ((lim s i : Int) ≤ (n : Int)) = false := by simp; omega
        have d2 : decide ((n : Int) ≥ (lim s i : Int)) = false := by simp; omega
        have h1 : kn + n < s.length := by omega
        have h2 : i + n < s.length := by omega
        have e1 : s[kn + n]? = some s[kn + n] := by simp [h1]
        have e2 : s[i + n]? = some s[i + n] := by simp [h2]
        have i1 : (0 : Int) ≤ (kn : Int) + (n : Int) ∧ (kn : Int) + (n : Int) < (s.length : Int) ∧ ((kn : Int) + (n : Int)).toNat = kn + n ∧ IntKind.i64.wrap ((kn : Int) + (n : Int)) = (kn : Int) + (n : Int) := ⟨by omega, by omega, by omega, IntWalk.i64_in _ (by omega)⟩
        have i2 : (0 : Int) ≤ (i : Int) + (n : Int) ∧ (i : Int) + (n : Int) < (s.length : Int) ∧ ((i : Int) + (n : Int)).toNat = i + n ∧ IntKind.i64.wrap ((i : Int) + (n : Int)) = (i : Int) + (n : Int) := ⟨by omega, by omega, by omega, IntWalk.i64_in _ (by omega)⟩
        have b1 : byte s (kn + n) = s[kn + n] := by unfold byte; rw [e1]; rfl
        have b2 : byte s (i + n) = s[i + n] := by unfold byte; rw [e2]; rfl
        rw [b1, b2] at hrun
        clear b1 b2
        by_cases hlt : s[kn + n] < s[i + n]
        · rw [if_pos hlt] at hrun
          have HRN := hid hrun
          have d3 : decide ((s[kn + n].toNat : Int) < (s[i + n].toNat : Int)) = true := by
            have := UInt8.lt_iff_toNat_lt.1 hlt
            simp; omega
          clear hrun
          go_wp2_with (first | (go_at_call 77; refine (HA.out _).mono ?_; rintro z w4 ⟨rfl, hs4⟩; have hS4 := hS.same hs4) | ((go_at_call 73; refine (HM.out _ hS4.cs).mono ?_; rintro z w5 ⟨rfl, hM5⟩; obtain ⟨r5, rc5, hS5⟩ := hS4.met hM5; have d0 := hS5.bf.blk.cell 0; have d4 := hS5.bf.blk.cell 4; have d5 := hS5.bf.blk.cell 5; obtain ⟨e1, e2, e3⟩ := hS5.bf.at false kn hcg; obtain ⟨e4, e5, e6⟩ := hS5.bf.at true kn hcg; obtain ⟨e7, e8, e9⟩ := hS5.bf.at lp.1 lp.2 (by omega); obtain ⟨e10, e11, e12⟩ := hS5.bf.at mp.1 mp.2 (by omega); simp only [List.getElem?_toArray, List.getElem?_cons_succ, List.getElem?_cons_zero] at d0 d4 d5; simp only [gof, Bool.false_eq_true, if_false, if_true] at e1 e2 e3 e4 e5 e6)))
          go_quiet (fail)
          have d3' : (⟨s.toArray⟩ : ByteArray)[kn + n].toNat < (⟨s.toArray⟩ : ByteArray)[i + n].toNat := UInt8.lt_iff_toNat_lt.1 hlt
          have hS6 := (hS5.same ((Keeps.refl _ _).drewN nq)).put lp (kn : Int)
          obtain ⟨x1, x2, x3⟩ := hS6.bf.at true kn hcg
          simp only [gof, if_true] at x1 x2 x3
          rw [put_other _ _ hq1] at x1
          have x5 := hS6.bf.blk.cell 5
          simp only [List.getElem?_toArray, List.getElem?_cons_succ, List.getElem?_cons_zero] at x5
          clear hlt
          go_wp2_with fail
          rw [show (A'.put lp (kn : Int)) (true, kn) = A' (true, kn) from put_other _ _ hq1] at HRN
          exact ⟨⟨A'.put lp (kn : Int), (true, kn), mp, A' (true, kn), v ++ [(kn, n)], _, _, r5, rc5, f', rfl, rfl, rfl, hS6, HRN.out, HF2.out, hz2.1, by show _ < (kn : Int); omega, by omega, by show kn ≤ i; omega, hmi, by omega, fun b j hj => by rw [put_other _ _ (fun e => by have e2 : j = lp.2 := (congrArg Prod.snd e); omega)]; exact HA2.out b j (by omega), by omega⟩, by show (A' (true, kn) + 1).toNat < ((kn : Int) + 1).toNat; omega⟩
        · rw [if_neg hlt] at hrun
          have HRN := hid hrun
          have d3 : decide ((s[kn + n].toNat : Int) < (s[i + n].toNat : Int)) = false := by
            have : ¬ s[kn + n].toNat < s[i + n].toNat := fun h => hlt (UInt8.lt_iff_toNat_lt.2 h)
            simp; omega
          clear hrun
          go_wp2_with (first | (go_at_call 77; refine (HA.out _).mono ?_; rintro z w4 ⟨rfl, hs4⟩; have hS4 := hS.same hs4) | ((go_at_call 73; refine (HM.out _ hS4.cs).mono ?_; rintro z w5 ⟨rfl, hM5⟩; obtain ⟨r5, rc5, hS5⟩ := hS4.met hM5; have d0 := hS5.bf.blk.cell 0; have d4 := hS5.bf.blk.cell 4; have d5 := hS5.bf.blk.cell 5; obtain ⟨e1, e2, e3⟩ := hS5.bf.at false kn hcg; obtain ⟨e4, e5, e6⟩ := hS5.bf.at true kn hcg; obtain ⟨e7, e8, e9⟩ := hS5.bf.at lp.1 lp.2 (by omega); obtain ⟨e10, e11, e12⟩ := hS5.bf.at mp.1 mp.2 (by omega); simp only [List.getElem?_toArray, List.getElem?_cons_succ, List.getElem?_cons_zero] at d0 d4 d5; simp only [gof, Bool.false_eq_true, if_false, if_true] at e1 e2 e3 e4 e5 e6)))
          go_quiet (fail)
          have d3' : ¬ (⟨s.toArray⟩ : ByteArray)[kn + n].toNat < (⟨s.toArray⟩ : ByteArray)[i + n].toNat := fun h => hlt (UInt8.lt_iff_toNat_lt.2 h)
          have hS6 := (hS5.same ((Keeps.refl _ _).drewN nq)).put mp (kn : Int)
          obtain ⟨x1, x2, x3⟩ := hS6.bf.at false kn hcg
          simp only [gof, Bool.false_eq_true, if_false] at x1 x2 x3
          rw [put_other _ _ hq2] at x1
          have x5 := hS6.bf.blk.cell 4
          simp only [List.getElem?_toArray, List.getElem?_cons_succ, List.getElem?_cons_zero] at x5
          clear hlt
          go_wp2_with fail
          rw [show (A'.put mp (kn : Int)) (false, kn) = A' (false, kn) from put_other _ _ hq2] at HRN
          exact ⟨⟨A'.put mp (kn : Int), lp, (false, kn), A' (false, kn), v ++ [(kn, n)], _, _, r5, rc5, f', rfl, rfl, rfl, hS6, HRN.out, HF2.out, hz1.1, by omega, by show _ < (kn : Int); omega, hli, by show kn ≤ i; omega, by omega, fun b j hj => by rw [put_other _ _ (fun e => by have e2 : j = mp.2 := (congrArg Prod.snd e); omega)]; exact HA2.out b j (by omega), by omega⟩, by show (A' (false, kn) + 1).toNat < ((kn : Int) + 1).toNat; omega⟩
    · have hend : hangRun s i W f A' lp mp k v = ((A'.put lp (-1)).put mp (-1), v) := by
        cases f with
        | zero => rfl
        | succ f => rw [hangRun, if_neg hcond]
      have hSE := (hS.put lp (-1)).put mp (-1)
      rw [hend] at hrun
      obtain ⟨hc2, hf2, hl2⟩ := (hS.put lp (-1)).bf.at mp.1 mp.2 (by omega)
      have HSE := hid hSE
      have HRN := hid hrun
      have HFO := hid hfold
      have HLT : Hid (HungLeft w (((wr.setCell ⟨gof g1 g2 lp.1, lp.2, none⟩ (i6 (-1))).setCell ⟨gof g1 g2 mp.1, mp.2, none⟩ (i6 (-1)))) p s W pl g1 g2 R bB oB iB i (best, L) r) := hid ⟨r', rc', by rw [← hrun]; show HS _ _ _ _ _ _ _ _ _ _ _ _ _ _ (v.foldl (metF i) (best, L)).1 (v.foldl (metF i) (best, L)).2 _ _ _; rw [← hfold]; exact hSE⟩
      clear hSE hend hrun hfold hA'
      by_cases hkne : k = -1
      · subst hkne
        go_wp2_with fail
        go_end0
        exact ⟨rfl, by rw [HRR.out]; exact HLT.out⟩
      · have hw0 : decide ((i : Int) - k ≤ W) = false := by simp; omega
        have hk0 : (k != -1) = true := by simpa using hkne
        have hwr : IntKind.i64.wrap ((i : Int) - k) = (i : Int) - k := IntWalk.i64_in _ (by omega)
        clear hcond
        go_wp2_with fail
        go_end0
        exact ⟨rfl, by rw [HRR.out]; exact HLT.out⟩
end Go.Proofs.YtalopgbkjgjppaaGreatDoor

/- bst.Next: the matches at the next place. -/
namespace Go.Proofs.YtalopgbkjgjppaaGreatDoor
open Go.RowKit Go.Cas

theorem fold_pick (i : Nat) : ∀ (l : List (Nat × Nat)) (best : Nat) (L : List (Nat × Nat)), (l.foldl (metF i) (best, L)).2 = L ++ pick i best l
  | [], best, L => by simp [pick]
  | (k, n) :: l, best, L => by
    rw [List.foldl_cons, pick, show metF i (best, L) (k, n) = if best < n then (n, L ++ [(n, i - k)]) else (best, L) from rfl]
    by_cases h : best < n
    · rw [if_pos h, if_pos h, fold_pick i l, List.append_assoc]; rfl
    · rw [if_neg h, if_neg h, fold_pick i l]

theorem hangRun_range (s : List UInt8) (i : Nat) (W : Int) : ∀ (f : Nat) (A : Rows2) (lp mp : Bool × Nat) (k : Int) (v : List (Nat × Nat)), -1 ≤ k → k < lp.2 → k < mp.2 → lp.2 ≤ i → mp.2 ≤ i →
    (∀ (b : Bool) (j : Nat), j ≤ i → (b, j) ≠ lp → (b, j) ≠ mp → -1 ≤ A (b, j) ∧ A (b, j) < j) → ∀ (b : Bool) (j : Nat), j ≤ i → -1 ≤ (hangRun s i W f A lp mp k v).1 (b, j) ∧ (hangRun s i W f A lp mp k v).1 (b, j) < j := by
  have two : ∀ (A : Rows2) (lp mp : Bool × Nat) (x y : Int), -1 ≤ x → x < lp.2 → -1 ≤ y → y < mp.2 → (∀ (b : Bool) (j : Nat), j ≤ i → (b, j) ≠ lp → (b, j) ≠ mp → -1 ≤ A (b, j) ∧ A (b, j) < j) → ∀ (b : Bool) (j : Nat), j ≤ i → -1 ≤ ((A.put lp x).put mp y) (b, j) ∧ ((A.put lp x).put mp y) (b, j) < j := by
    intro A lp mp x y h1 h2 h3 h4 hA b j hj
    by_cases e1 : (b, j) = mp
    · subst e1; rw [put_same]; exact ⟨h3, h4⟩
    · rw [put_other _ _ e1]
      by_cases e2 : (b, j) = lp
      · subst e2; rw [put_same]; exact ⟨h1, h2⟩
      · rw [put_other _ _ e2]; exact hA b j hj e2 e1
  intro f
  induction f with
  | zero =>
    intro A lp mp k v hk hkl hkm hl hm hA
    exact two A lp mp (-1) (-1) (by omega) (by omega) (by omega) (by omega) hA
  | succ f ih =>
    intro A lp mp k v hk hkl hkm hl hm hA
    unfold hangRun
    split
    · rename_i hc
      obtain ⟨kn, rfl⟩ : ∃ kn : Nat, k = kn := ⟨k.toNat, by omega⟩
      simp only [Int.toNat_natCast]
      have hz := fun b => hA b kn (by omega) (fun e => by have e2 : kn = lp.2 := congrArg Prod.snd e; omega) (fun e => by have e2 : kn = mp.2 := congrArg Prod.snd e; omega)
      split
      · exact two A lp mp _ _ (hz false).1 (by have := (hz false).2; omega) (hz true).1 (by have := (hz true).2; omega) hA
      · split
        · have e : (A.put lp (kn : Int)) (true, kn) = A (true, kn) := put_other _ _ (fun e => by have e2 : kn = lp.2 := congrArg Prod.snd e; omega)
          rw [e]
          refine ih _ _ _ _ _ (hz true).1 (hz true).2 (by have := (hz true).2; omega) (by show kn ≤ i; omega) hm ?_
          intro b j hj h1 h2
          by_cases e2 : (b, j) = lp
          · subst e2; rw [put_same]; exact ⟨hk, hkl⟩
          · rw [put_other _ _ e2]; exact hA b j hj e2 h2
        · have e : (A.put mp (kn : Int)) (false, kn) = A (false, kn) := put_other _ _ (fun e => by have e2 : kn = mp.2 := congrArg Prod.snd e; omega)
          rw [e]
          refine ih _ _ _ _ _ (hz false).1 (by have := (hz false).2; omega) (hz false).2 hl (by show kn ≤ i; omega) ?_
          intro b j hj h1 h2
          by_cases e2 : (b, j) = mp
          · subst e2; rw [put_same]; exact ⟨hk, hkm⟩
          · rw [put_other _ _ e2]; exact hA b j hj h1 e2
    · exact two A lp mp (-1) (-1) (by omega) (by omega) (by omega) (by omega) hA

/-- The finder behind so many places. -/
def F8 (w : World) (p : Nat) (s : List UInt8) (W : Int) (i g1 g2 : Nat) : Prop :=
  ∃ (A : Rows2) (top : Int) (t : Tr), BF w p s W i top g1 g2 A ∧ TreeAt s W i A top t ∧ (-1 ≤ top ∧ top < i) ∧ ∀ (b : Bool) (j : Nat), j < i → -1 ≤ A (b, j) ∧ A (b, j) < j

theorem F8.keeps {S : Nat → Prop} {w w' : World} {p : Nat} {s : List UInt8} {W : Int} {i g1 g2 : Nat} (h : F8 w p s W i g1 g2) (k : Keeps S w w') (hn : ∀ b, b = p ∨ b = g1 ∨ b = g2 → ¬ S b) : F8 w' p s W i g1 g2 := by
  obtain ⟨A, top, t, h1, h2⟩ := h
  exact ⟨A, top, t, h1.keeps k hn, h2⟩

theorem F8.new {w : World} {p : Nat} {s : List UInt8} {W : Int} {g1 g2 : Nat} (h : BF w p s W 0 (-1) g1 g2 (fun _ => 0)) : F8 w p s W 0 g1 g2 :=
  ⟨_, -1, .nil, h, ⟨holds_nil s W, trivial, rfl, rfl⟩, by omega, fun b j hj => by omega⟩

/-- What Next finds. -/
def Finds (s : List UInt8) (W : Int) (i : Nat) (L : List (Nat × Nat)) : Prop := ∃ t, Holds s W i t ∧ L = pick i 1 (t.met s i W) ∧ t = canon s W i

def Next8Left (w w' : World) (p : Nat) (s : List UInt8) (W : Int) (i g1 g2 : Nat) (z : Ending) : Prop :=
  ∃ r rc L, z = .returned (.slice r (L : List (Nat × Nat)).length rc) ∧ Sl 98 2 w' r rc L.length (cellsF L) ∧ F8 w' p s W (i + 1) g1 g2 ∧ Keeps (fun b => b = p ∨ b = g1 ∨ b = g2) w w' ∧ (∀ b, sblk r b → w.heap.size ≤ b) ∧ Finds s W i L

theorem next_tree {s : List UInt8} {W : Int} {i : Nat} {A : Rows2} {top : Int} {t : Tr} (h : TreeAt s W i A top t) (ht : -1 ≤ top ∧ top < i) (hA : ∀ (b : Bool) (j : Nat), j < i → -1 ≤ A (b, j) ∧ A (b, j) < j) :
    ∀ R, hangRun s i W (i + 1) A (false, i) (true, i) top [] = R → ((R.2).foldl (metF i) (1, [])).2 = pick i 1 (t.met s i W) ∧ (∃ t', TreeAt s W (i + 1) R.1 i t') ∧ ∀ (b : Bool) (j : Nat), j < i + 1 → -1 ≤ R.1 (b, j) ∧ R.1 (b, j) < j := by
  rintro R rfl
  obtain ⟨h1, h2⟩ := treeAt_hang s W i A top t h (i + 1) (by omega)
  refine ⟨by rw [h1, fold_pick]; rfl, ⟨_, h2⟩, fun b j hj => hangRun_range s i W (i + 1) A (false, i) (true, i) top [] ht.1 ht.2 ht.2 (Nat.le_refl _) (Nat.le_refl _) (fun b j hj h1 h2 => ?_) b j (by omega)⟩
  have hji : j ≠ i := by
    rintro rfl
    cases b
    · exact h1 rfl
    · exact h2 rfl
  exact hA b j (by omega)

abbrev nwA (w0 : World) : World := w0.alloc (.cells #[i6 0] 3)
abbrev nwB (w0 : World) (n i : Nat) : World := (nwA w0).setCell ⟨n, 0, none⟩ (i6 i)
abbrev nwC (w0 : World) (n i p : Nat) : World := (nwB w0 n i).setCell ⟨p, 2, none⟩ (i6 ((i : Int) + 1))
abbrev nwD (w0 : World) (n i p : Nat) : World := (nwC w0 n i p).alloc (.cells #[.slice none 0 0] 95)
abbrev nwE (w0 : World) (n i p : Nat) : World := (nwD w0 n i p).alloc (.cells #[i6 0] 3)
abbrev nwF (w0 : World) (n i p : Nat) : World := (nwD w0 n i p).alloc (.cells #[i6 1] 3)

theorem next8_ready {w0 : World} {n p : Nat} {s : List UInt8} {W : Int} {i : Nat} {top : Int} {g1 g2 : Nat} {A : Rows2} (hn : n = w0.heap.size) (h : BF w0 p s W i top g1 g2 A) :
    ((nwA w0).cell? ⟨n, 0, none⟩ = some (i6 0) ∧ (nwA w0).frozen? ⟨n, 0, none⟩ = false ∧ n < (nwA w0).heap.size) ∧
    ((nwB w0 n i).cell? ⟨p, 2, none⟩ = some (i6 i) ∧ (nwB w0 n i).frozen? ⟨p, 2, none⟩ = false ∧ p < (nwB w0 n i).heap.size) ∧
    ((nwE w0 n i p).cell? ⟨n + 1 + 1, 0, none⟩ = some (i6 0) ∧ (nwE w0 n i p).frozen? ⟨n + 1 + 1, 0, none⟩ = false ∧ n + 1 + 1 < (nwE w0 n i p).heap.size) ∧
    (nwF w0 n i p).cell? ⟨n, 0, none⟩ = some (i6 i) ∧ Keeps (fun b => b = p) w0 (nwF w0 n i p) ∧
    HS (nwF w0 n i p) (nwF w0 n i p) p s W (i + 1) top g1 g2 A (n + 1 + 1) (n + 1) n i 1 [] none 0 none := by
  have lp := h.blk.lt
  have l1 := h.r1.lt
  have l2 := h.r2.lt
  have sA : (nwA w0).heap.size = n + 1 := by simp [hn]
  have bA : Blk (nwA w0) n #[i6 0] 3 := Blk.new_at hn
  have bB : Blk (nwB w0 n i) n #[i6 i] 3 := by have := bA.set 0 (i6 i); simpa using this
  have sB : (nwB w0 n i).heap.size = n + 1 := by simp [hn]
  have bC : Blk (nwC w0 n i p) n #[i6 i] 3 := bB.setOther (p := ⟨p, 2, none⟩) (by show n ≠ p; omega) _
  have sC : (nwC w0 n i p).heap.size = n + 1 := by simp [hn]
  have bD : Blk (nwD w0 n i p) n #[i6 i] 3 := bC.alloc _
  have oD : Blk (nwD w0 n i p) (n + 1) #[.slice none 0 0] 95 := Blk.new_at sC.symm
  have sD : (nwD w0 n i p).heap.size = n + 2 := by simp [hn]
  have eE : Blk (nwE w0 n i p) (n + 1 + 1) #[i6 0] 3 := Blk.new_at sD.symm
  have sE : (nwE w0 n i p).heap.size = n + 3 := by simp [hn]
  have eF : Blk (nwF w0 n i p) (n + 1 + 1) #[i6 1] 3 := Blk.new_at sD.symm
  have oF : Blk (nwF w0 n i p) (n + 1) #[.slice none 0 0] 95 := oD.alloc _
  have bF : Blk (nwF w0 n i p) n #[i6 i] 3 := bD.alloc _
  have pA : Blk (nwA w0) p _ _ := h.blk.alloc _
  have pB : Blk (nwB w0 n i) p _ _ := pA.setOther (p := ⟨n, 0, none⟩) (by show p ≠ n; omega) _
  have pC : Blk (nwC w0 n i p) p #[.string ⟨s.toArray⟩, i6 W, i6 ((i : Int) + 1), i6 top, .slice (some ⟨g1, 0, none⟩) s.length s.length, .slice (some ⟨g2, 0, none⟩) s.length s.length] 151 := by have := pB.set 2 (i6 ((i : Int) + 1)); simpa using this
  have pF : Blk (nwF w0 n i p) p _ _ := (pC.alloc _).alloc _
  have K : Keeps (fun b => b = p) w0 (nwF w0 n i p) := by
    exact Keeps.alloc (Keeps.alloc (Keeps.setCell (S := fun b => b = p) (p := ⟨p, 2, none⟩) (Keeps.setCell (S := fun b => b = p) (p := ⟨n, 0, none⟩) ((Keeps.refl (fun b => b = p) _).alloc _) (fun hx => absurd hx (by show ¬ n < w0.heap.size; omega)) _) (fun _ => rfl) _) _) _
  refine ⟨⟨bA.cell 0, bA.frozen 0, bA.lt⟩, ⟨pB.cell 2, pB.frozen 2, pB.lt⟩, ⟨eE.cell 0, eE.frozen 0, eE.lt⟩, bF.cell 0, K, ?_⟩
  refine ⟨⟨pF, h.r1.keeps K (fun e => h.n1 e.symm), h.r2.keeps K (fun e => h.n2 e.symm), h.n1, h.n2, h.n3⟩, ⟨eF, oF, bF, Sl.nil _ _ _, by omega, by omega, by omega, by simp [sblk], by simp [sblk], by simp [sblk]⟩, ?_, Keeps.refl _ _, fun b e => .inl e⟩
  rintro b (rfl | rfl | rfl | e)
  · omega
  · omega
  · omega
  · simp [sblk] at e

set_option maxHeartbeats 4000000 in
set_option maxRecDepth 100000 in
theorem next8_any (p : Nat) (s : List UInt8) (W : Int) (i g1 g2 : Nat) (w : World) (h : F8 w p s W i g1 g2) (hi : i < s.length) (hs : s.length ≤ 1000000) :
    Calls Tryz.prog 40 #[.pointer (some ⟨p, 0, none⟩)] w fun z w' => Next8Left w w' p s W i g1 g2 z := by
  obtain ⟨A, top, t, hB, hT, htop, hA⟩ := h
  have c0 := hB.blk.cell 0
  have c2 := hB.blk.cell 2
  have cf := hB.blk.frozen 2
  have cl := hB.blk.lt
  simp only [List.getElem?_toArray, List.getElem?_cons_succ, List.getElem?_cons_zero] at c0 c2
  have d1 : decide ((s.length : Int) ≤ (i : Int)) = false := by simp; omega
  have d2 : decide ((i : Int) ≥ (s.length : Int)) = false := by simp; omega
  have hwr : IntKind.i64.wrap ((i : Int) + 1) = (i : Int) + 1 := IntWalk.i64_in _ (by omega)
  obtain ⟨R, hR⟩ : ∃ R, hangRun s i W (i + 1) A (false, i) (true, i) top [] = R := ⟨_, rfl⟩
  have HN := hid (next_tree hT htop hA R hR)
  have HR := hid hR
  have HA := hid hA
  have HT := hid hT
  clear hA hR hT
  go_enter Tryz.func40, Tryz.ntmps40
  go_upto_region 1 with fail
  go_quiet (fail)
  obtain ⟨⟨a1, a2, a3⟩, ⟨b1, b2, b3⟩, ⟨e1, e2, e3⟩, f1, K, hS⟩ := next8_ready (w0 := w.drewN nq) (n := w.heap.size) (by simp) (hB.keeps ((Keeps.refl (fun _ => False) w).drewN nq) (fun _ _ h => h))
  have HG := hid (fun w0 hS => hang_any p s W (i + 1) top g1 g2 A (w.heap.size + 1 + 1) (w.heap.size + 1) w.heap.size i 1 [] none 0 w0 hS hi hs htop HA.out rfl)
  have HS0 := hid hS
  have HK := hid K
  clear hS K
  simp only [nwA, nwB, nwC, nwD, nwE, nwF] at a1 a2 a3 b1 b2 b3 e1 e2 e3 f1
  go_wp2_with ((go_at_call 72; refine (HG.out _ HS0.out).mono ?_; rintro z w4 ⟨rfl, r5, rc5, hS5⟩; have d2 := hS5.cs.b2.cell 0; simp only [List.getElem?_toArray, List.getElem?_cons_zero] at d2))
  go_ret
  have hRR := HR.out
  rw [hRR] at hS5 ⊢
  obtain ⟨n1, ⟨t', n2⟩, n3⟩ := HN.out
  have hz := HK.out.size
  have hz0 : (w.drewN nq).heap.size = w.heap.size := by simp
  refine ⟨r5, rc5, (R.2.foldl (metF i) (1, [])).2, rfl, hS5.cs.sl, ⟨R.1, i, t', hS5.bf, n2, ⟨by omega, by push_cast; omega⟩, n3⟩, ?_, ?_, ⟨t, HT.out.1, n1, HT.out.2.2.2⟩⟩
  · have K1 : Keeps (fun b => b = p ∨ b = g1 ∨ b = g2) w (nwF (w.drewN nq) w.heap.size i p) := (((Keeps.refl (fun b => b = p) w).drewN nq).trans HK.out).mono fun b _ e => .inl e
    refine K1.trans' hS5.kp fun b hb e => ?_
    rcases e with e | e | e | e
    · exact .inl e
    · exact .inr (.inl e)
    · exact .inr (.inr e)
    · rcases e with e | e | e | e
      · omega
      · omega
      · omega
      · simp [sblk] at e
  · intro b e
    rcases hS5.hr b e with e | e
    · simp [sblk] at e
    · omega
end Go.Proofs.YtalopgbkjgjppaaGreatDoor
