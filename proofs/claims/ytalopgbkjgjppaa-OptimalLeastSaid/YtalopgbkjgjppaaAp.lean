/- The walk of packet.Apply. -/
import Derived.Test.YtalopgbkjgjppaaWin2
import Derived.Deep.DeepCutAuto
namespace Go.Proofs.Ytalopgbkjgjppaa
open Go.RowKit Go.Cas

/-- A packet as data. -/
structure Pk where
  k : Int
  d : Int
  l : Int
  y : UInt8
  deriving DecidableEq

def Pk.cells (p : Pk) : List Value := [i6 p.k, i6 p.d, i6 p.l, b8 p.y]
def cellsP (l : List Pk) : List Value := l.flatMap Pk.cells

theorem cellsP_length (l : List Pk) : (cellsP l).length = l.length * 4 := by
  induction l with
  | nil => rfl
  | cons p l ih => simp [cellsP, Pk.cells] at *; omega

theorem cellsP_get : ∀ (l : List Pk) (k j : Nat) (p : Pk), l[k]? = some p → j < 4 → (cellsP l)[k * 4 + j]? = p.cells[j]?
  | [], k, j, p, h, _ => by simp at h
  | q :: l, 0, j, p, h, hj => by
    simp at h; subst h
    show (q.cells ++ cellsP l)[0 * 4 + j]? = _
    rw [List.getElem?_append_left (by simp [Pk.cells]; omega)]
    simp
  | q :: l, k + 1, j, p, h, hj => by
    have ih := cellsP_get l k j p (by simpa using h) hj
    show (q.cells ++ cellsP l)[(k + 1) * 4 + j]? = _
    rw [List.getElem?_append_right (by simp [Pk.cells]; omega), ← ih]
    congr 1
    simp [Pk.cells]; omega

/-- A slice that holds packets. -/
structure Pks (w : World) (q : Option Addr) (cap : Nat) (l : List Pk) : Prop where
  own : w.ownsRow 0 29 4 (.slice q l.length cap) l.length (cellsP l)

theorem Pks.keeps {S : Nat → Prop} {w w' : World} {q : Option Addr} {cap : Nat} {l : List Pk} (h : Pks w q cap l) (k : Keeps S w w') (hn : ∀ b, sblk q b → ¬ S b) : Pks w' q cap l :=
  ⟨ownsRow_keeps h.own k fun b hb => hn b (by rw [ownBlock_slice] at hb; exact hb)⟩

theorem Pks.lt {w : World} {q : Option Addr} {cap : Nat} {l : List Pk} (h : Pks w q cap l) : ∀ b, sblk q b → b < w.heap.size := fun b hb => (h.own.lt b (by rw [ownBlock_slice]; exact hb)).2

theorem Pks.ex {w : World} {q : Option Addr} {cap : Nat} {l : List Pk} (h : Pks w q cap l) (hl : 0 < l.length) : ∃ g, q = some ⟨g, 0, none⟩ := by
  rcases h.own.2 with ⟨h1, h2⟩ | ⟨g, c, cur, h1, _⟩
  · omega
  · simp at h1; exact ⟨g, h1.1⟩

theorem Pks.at {w : World} {g cap : Nat} {l : List Pk} (h : Pks w (some ⟨g, 0, none⟩) cap l) (k : Nat) (p : Pk) (hk : l[k]? = some p) :
    w.cell? ⟨g, k * 4, none⟩ = some (i6 p.k) ∧ w.cell? ⟨g, k * 4 + 1, none⟩ = some (i6 p.d) ∧ w.cell? ⟨g, k * 4 + 2, none⟩ = some (i6 p.l) ∧ w.cell? ⟨g, k * 4 + 3, none⟩ = some (b8 p.y) := by
  have hkl : k < l.length := (List.getElem?_eq_some_iff.1 hk).1
  have e := fun j hj => (h.own.cellAt (k * 4 + j) (by omega)).trans (cellsP_get l k j p hk hj)
  exact ⟨e 0 (by omega), e 1 (by omega), e 2 (by omega), e 3 (by omega)⟩

/-- The text that packets tell, from here on, or its error; at most M bytes. -/
def applyGo (M : Nat) : List Pk → List UInt8 → Int × Int × Int × Int → List UInt8 × Int
  | [], bs, _ => (bs, 0)
  | p :: ps, bs, r =>
    if p.k = 1 ∧ p.d = 0 ∧ p.l = 0 then
      if bs.length < M then applyGo M ps (bs ++ [p.y]) r else ([], 11)
    else if (fitsL p.k p.d p.l p.y.toNat bs.length r.1 r.2.1 r.2.2.1 r.2.2.2).2.2.2 then
      if 1 ≤ (fitsL p.k p.d p.l p.y.toNat bs.length r.1 r.2.1 r.2.2.1 r.2.2.2).1 ∧ (fitsL p.k p.d p.l p.y.toNat bs.length r.1 r.2.1 r.2.2.1 r.2.2.2).1 ≤ bs.length ∧
        0 ≤ (fitsL p.k p.d p.l p.y.toNat bs.length r.1 r.2.1 r.2.2.1 r.2.2.2).2.1 ∧ (fitsL p.k p.d p.l p.y.toNat bs.length r.1 r.2.1 r.2.2.1 r.2.2.2).2.1 ≤ (M : Int) - bs.length then
        applyGo M ps (copyL bs (fitsL p.k p.d p.l p.y.toNat bs.length r.1 r.2.1 r.2.2.1 r.2.2.2).1.toNat (fitsL p.k p.d p.l p.y.toNat bs.length r.1 r.2.1 r.2.2.1 r.2.2.2).2.1.toNat) (fitsL p.k p.d p.l p.y.toNat bs.length r.1 r.2.1 r.2.2.1 r.2.2.2).2.2.1
      else ([], 11)
    else ([], 6)

def applyL (l : List Pk) (most : Int) : List UInt8 × Int := applyGo most.toNat l [] (1, 1, 1, 1)

abbrev rc4 (r : Int × Int × Int × Int) : Array Value := #[i6 r.1, i6 r.2.1, i6 r.2.2.1, i6 r.2.2.2]

theorem fits_bound (k d l y h a b c e : Int) (hn : ¬ (k = 1 ∧ d = 0 ∧ l = 0)) : (fitsL k d l y h a b c e).2.2.2 = true → 1 ≤ (fitsL k d l y h a b c e).2.1 ∧ (fitsL k d l y h a b c e).2.1 ≤ 273 := by
  unfold fitsL
  rw [if_neg hn]
  split
  · rename_i hc
    intro _
    revert hc
    unfold copiesL longB
    split
    · simp; omega
    · split
      · simp; omega
      · split <;> simp
  · simp

set_option maxHeartbeats 4000000 in
set_option maxRecDepth 100000 in
theorem apply_any (q : Option Addr) (cap : Nat) (l : List Pk) (most : Int) (w : World) (hl : Pks w q cap l) (hM : most ≤ 9223372036854775807) (hn : l.length ≤ 100000000) :
    Calls Try.prog 14 #[.slice q l.length cap, i6 most] w fun z w' =>
      z = .returned (.tuple #[.string ⟨(applyL l most).1.toArray⟩, i6 (applyL l most).2]) ∧ Same w w' := by
  go_enter Try.func14, Try.ntmps14
  go_wp2_with (first | (go_at_call 37; refine (wnew_any _ _).mono ?_; rintro z w1 ⟨rfl, hs1, hw1⟩) | (go_at_call 24; refine (first_any _).mono ?_; rintro z w2 ⟨rfl, hs2⟩))
  have hP : Win (w2.alloc (.cells (rc4 (1, 1, 1, 1)) 44)) w.heap.size most.toNat [] none 0 := hw1.keeps (S := fun _ => False) (Keeps.alloc hs2 _) fun _ _ h => h
  have hR : Blk (w2.alloc (.cells (rc4 (1, 1, 1, 1)) 44)) w2.heap.size (rc4 (1, 1, 1, 1)) 44 := Blk.new _ _ _
  have hS : Same w (w2.alloc (.cells (rc4 (1, 1, 1, 1)) 44)) := (hs1.trans hs2).alloc _
  have hPR : w.heap.size < w2.heap.size := Nat.lt_of_lt_of_le hw1.blk.lt hs2.size
  generalize w2.heap.size = R at *
  generalize hPe : w.heap.size = P at *
  clear hs1 hs2 hw1
  go_loopw [19] (fun i wr => ∃ k : Nat, k ≤ l.length ∧ i = i6 k ∧ ∃ bs q1 c1 r, Win wr P most.toNat bs q1 c1 ∧ Blk wr R (rc4 r) 44 ∧ ¬ winF P q1 R ∧ (∀ b, winF P q1 b → P ≤ b) ∧ Same w wr ∧ bs.length ≤ 273 * k ∧ bs.length ≤ most.toNat ∧
      applyGo most.toNat (l.drop k) bs r = applyL l most) (fun i _ => l.length - (intOf i).toNat)
  case atStart => exact ⟨0, Nat.zero_le _, rfl, [], none, 0, (1, 1, 1, 1), hP, hR, by simp [winF]; omega, by simp [winF], hS, by simp, by simp, rfl⟩
  case round =>
    obtain ⟨k, hk, rfl, bs, q1, c1, r, hw, hr, hne, hge, hsm, hlen, hlM, hfin⟩ := hrel
    clear hP hR hS
    by_cases hlt : k < l.length
    · obtain ⟨g, rfl⟩ := hl.ex (by omega)
      have hget : l[k]? = some l[k] := by simp [hlt]
      have hdrop : l.drop k = l[k] :: l.drop (k + 1) := List.drop_eq_getElem_cons hlt
      rw [hdrop] at hfin
      generalize l[k] = pkt at *
      obtain ⟨pk_, pd, pl, py⟩ := pkt
      have hat := (hl.keeps hsm (fun _ _ h => h)).at k _ hget
      dsimp only at hat
      have hgl : g < wr.heap.size := (hl.keeps hsm (fun _ _ h => h)).lt g rfl
      have HF := hid hfin
      clear hfin hdrop hget
      by_cases hlit : pk_ = 1 ∧ pd = 0 ∧ pl = 0
      · obtain ⟨rfl, rfl, rfl⟩ := hlit
        have HU := HF.out
        simp only [applyGo, and_self, if_true] at HU
        by_cases hfull : bs.length < most.toNat
        · rw [if_pos hfull] at HU
          replace HU := hid HU
          go_wp2_with ((go_at_call 38; refine (wput_yes P most.toNat c1 bs q1 py _ (hw.keeps (S := fun _ => False) ((Keeps.refl _ _).alloc _) (fun _ _ h => h)) hfull (by omega)).mono ?_; rintro z w3 ⟨rfl, q2, c2, hw2, hk2, hg2⟩))
          go_roundw
          case rel =>
            refine ⟨k + 1, by omega, by go_num, bs ++ [py], q2, c2, r, hw2, ?_, ?_, ?_, ?_, by simp; omega, by simp; omega, HU.out⟩
            · exact (hr.alloc _).keeps hk2 hne
            · intro e; rcases hg2 R e with e | e
              · exact hne e
              · have := hr.lt; simp at e; omega
            · intro b e; rcases hg2 b e with e | e
              · exact hge b e
              · have := hsm.size; simp at e; omega
            · exact ((Keeps.of_same hsm).alloc _).trans' (S' := winF P q1) hk2 fun b hb hf => by have := hge b hf; omega
          case measure => simp [intOf]; omega
        · rw [if_neg hfull] at HU
          replace HU := hid HU
          go_wp2_with ((go_at_call 38; refine (wput_no P most.toNat c1 bs q1 _ _ (hw.keeps (S := fun _ => False) ((Keeps.refl _ _).alloc _) (fun _ _ h => h)) (by omega)).mono ?_; rintro z w3 ⟨rfl, hs3⟩))
          go_ret2
          exact ⟨by rw [← HU.out]; rfl, (hsm.alloc _).trans hs3⟩
      · have HU := HF.out
        simp only [applyGo] at HU
        rw [if_neg hlit] at HU
        replace HF := hid HU
        clear HU
        have HC := hid (fits_any pk_ pd pl py.toNat bs.length r.1 r.2.1 r.2.2.1 r.2.2.2)
        have HB := hid (fits_bound pk_ pd pl py.toNat bs.length r.1 r.2.1 r.2.2.1 r.2.2.2 hlit)
        generalize fitsL pk_ pd pl py.toNat bs.length r.1 r.2.1 r.2.2.1 r.2.2.2 = x at HF HC HB
        obtain ⟨x0, x1, ⟨y0, y1, y2, y3⟩, ok⟩ := x
        obtain ⟨r0, r1, r2, r3⟩ := r
        dsimp only at HF HC HB hr
        replace hlit := hid hlit
        go_upto_region 6 with fail
        go_cut [27] (fun s27 wx => s27 = .bool false ∧ wx = wr.alloc (.cells #[i6 pk_, i6 pd, i6 pl, b8 py] 29))
        case first =>
          go_wp2_with fail
          all_goals first
            | exact absurd ⟨by assumption, by assumption, by assumption⟩ hlit.out
            | (go_meet
               exact ⟨rfl, by simp [*]⟩)
        case rest =>
          obtain ⟨rfl, rfl⟩ := hcut
          go_upto_region 9 with fail
          go_cut [10, 11, 12, 13] (fun s10 s11 s12 s13 wx => ∃ b12 : Nat, s10 = i6 x0 ∧ s11 = i6 x1 ∧ s12 = .pointer (some ⟨b12, 0, none⟩) ∧ s13 = .bool ok ∧ Blk wx b12 #[i6 y0, i6 y1, i6 y2, i6 y3] 44 ∧ wr.heap.size ≤ b12 ∧ Same wr wx)
          case first =>
            have hr0 := hr.cell 0
            have hr1 := hr.cell 1
            have hr2 := hr.cell 2
            have hr3 := hr.cell 3
            have hrl := hr.lt
            have hrl2 : R < wr.heap.size + 1 ∧ R < wr.heap.size + 1 + 1 := by omega
            simp only [List.getElem?_toArray, List.getElem?_cons_succ, List.getElem?_cons_zero] at hr0 hr1 hr2 hr3
            go_region_held3 (fun W => W.cell? ⟨wr.heap.size, 0, none⟩ = some (i6 pk_) ∧ W.cell? ⟨wr.heap.size, 1, none⟩ = some (i6 pd) ∧ W.cell? ⟨wr.heap.size, 2, none⟩ = some (i6 pl) ∧ W.cell? ⟨wr.heap.size, 3, none⟩ = some (b8 py) ∧ W.cell? ⟨R, 0, none⟩ = some (i6 r0) ∧ W.cell? ⟨R, 1, none⟩ = some (i6 r1) ∧ W.cell? ⟨R, 2, none⟩ = some (i6 r2) ∧ W.cell? ⟨R, 3, none⟩ = some (i6 r3)) (go_simp)
              ((first | (go_at_call 40; refine (wlen_any P most.toNat c1 bs q1 _ (hw.keeps (S := fun _ => False) (by repeat (first | exact Keeps.refl _ _ | refine Keeps.drew ?_ | refine Keeps.drewN ?_ _ | refine Keeps.alloc ?_ _ | refine Keeps.setCell ?_ (by simp; try omega) _ | exact Hid.out (by assumption) | refine Keeps.trans ?_ (by assumption))) (fun _ _ h => h))).mono ?_; rintro z w3 ⟨rfl, rfl⟩) | (go_at_call 39; refine (HC.out _).mono ?_; rintro z w4 ⟨rfl, hs4⟩; obtain ⟨hc4, hf4, hz4⟩ := bcell hs4; have hy4 : wr.heap.size < w4.heap.size ∧ R < w4.heap.size := (by simp at hz4; omega))))
            all_goals
              go_wp2_with fail
              go_meet
              refine ⟨_, rfl, rfl, rfl, rfl, ?_, ?_, ?_⟩
              · first | exact Blk.new _ _ _ | exact Blk.set4 (Blk.keeps (Blk.drew (Blk.new_at (by simp))) hs4 (fun h => h)) _ _ _ _
              · first | (simp at hz4; omega) | omega
              · repeat (first | exact Keeps.refl _ _ | refine Keeps.drew ?_ | refine Keeps.drewN ?_ _ | refine Keeps.alloc ?_ _ | refine Keeps.setCell ?_ (by simp; try omega) _ | exact Hid.out (by assumption) | refine Keeps.trans ?_ (by assumption))
          case rest =>
            obtain ⟨b12, rfl, rfl, rfl, rfl, hb12, hge12, hsm2⟩ := hcut
            have hwc := hw.keeps hsm2 (fun _ _ h => h)
            have hrc := hr.keeps hsm2 (fun h => h)
            have hRl := hr.lt
            have hsm3 := hsm.trans hsm2
            have hz := hsm2.size
            have hw12 : ∀ b, winF P q1 b → b < wr.heap.size := by
              rintro b (rfl | e)
              · exact hw.blk.lt
              · exact (hw.own.lt b (by rw [ownBlock_slice]; exact e)).2
            clear hat hw hr
            cases ok with
            | false =>
              replace HF := hid (show (([] : List UInt8), (6 : Int)) = applyL l most from HF.out)
              go_wp2_with fail
              go_ret2
              exact ⟨by rw [← HF.out]; rfl, hsm3⟩
            | true =>
              have hbd := HB.out rfl
              have HU := HF.out
              simp only [if_true] at HU
              by_cases hc : 1 ≤ x0 ∧ x0 ≤ (bs.length : Int) ∧ 0 ≤ x1 ∧ x1 ≤ (most.toNat : Int) - bs.length
              · rw [if_pos hc] at HU
                obtain ⟨d0, rfl⟩ : ∃ d0 : Nat, x0 = d0 := ⟨x0.toNat, by omega⟩
                obtain ⟨n0, rfl⟩ : ∃ n0 : Nat, x1 = n0 := ⟨x1.toNat, by omega⟩
                simp only [Int.toNat_natCast] at HU
                replace HU := hid HU
                have hcl := copyL_length bs d0 n0
                have HCO := hid (wcopy_yes P most.toNat c1 bs q1 d0 n0 wc hwc (by omega) (by omega) (by omega) (by omega) (by omega))
                go_wp2_with ((go_at_call 41; refine HCO.out.mono ?_; rintro z w3 ⟨rfl, q2, c2, hw2, hk2, hg2⟩; have hq12 : ¬ winF P q1 b12 := (fun e => by have := hw12 b12 e; omega); have hb3 := hb12.keeps hk2 hq12; have hr3 := hrc.keeps hk2 hne; have e0 := hb3.cell 0; have e1 := hb3.cell 1; have e2 := hb3.cell 2; have e3 := hb3.cell 3; have f0 := hr3.cell 0; have f1 := hr3.cell 1; have f2 := hr3.cell 2; have f3 := hr3.cell 3; have ff := hr3.frozen; simp only [List.getElem?_toArray, List.getElem?_cons_succ, List.getElem?_cons_zero] at e0 e1 e2 e3 f0 f1 f2 f3))
                have K4 := Keeps.set4 w3 R (i6 y0) (i6 y1) (i6 y2) (i6 y3)
                have hne2 : ¬ winF P q2 R := fun e => (hg2 R e).elim hne (fun e => by omega)
                refine ⟨⟨k + 1, by omega, by go_num, copyL bs d0 n0, q2, c2, (y0, y1, y2, y3), hw2.keeps K4 (fun b hb e => hne2 (e ▸ hb)), hr3.set4 _ _ _ _, hne2, ?_, ?_, by omega, by omega, HU.out⟩, by simp [intOf]; omega⟩
                · intro b e
                  rcases hg2 b e with e | e
                  · exact hge b e
                  · have := hsm3.size; omega
                · exact (hsm3.trans' (S' := winF P q1) hk2 fun b hb hf => by have := hge b hf; omega).trans' K4 fun b hb hf => by omega
              · rw [if_neg hc] at HU
                replace HU := hid HU
                have HCO := hid (fun w h => wcopy_no P most.toNat c1 bs q1 x0 x1 w h (by omega) hlM hc)
                clear hc
                go_wp2_with ((go_at_call 41; refine (HCO.out _ hwc).mono ?_; rintro z w3 ⟨rfl, hs3⟩))
                go_ret2
                exact ⟨by rw [← HU.out]; rfl, hsm3.trans hs3⟩
    · obtain rfl : k = l.length := by omega
      have HU := hfin
      simp only [List.drop_length, applyGo] at HU
      replace HU := hid HU
      go_wp2_with ((go_at_call 42; refine (wtext_any P most.toNat c1 bs q1 _ hw).mono ?_; rintro z w3 ⟨rfl, rfl⟩))
      go_ret2
      exact ⟨by rw [← HU.out]; rfl, hsm⟩
end Go.Proofs.Ytalopgbkjgjppaa
