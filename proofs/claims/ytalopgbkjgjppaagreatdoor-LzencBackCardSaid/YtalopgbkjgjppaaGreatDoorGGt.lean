/- Part of a proof: Gt, Nw, Pn2, Gd. -/
import Derived.Test.YtalopgbkjgjppaaGreatDoorPt
import Derived.Deep.OwnRows
/- The walks of model's PutEnd, Get. -/
namespace Go.Proofs.YtalopgbkjgjppaaGreatDoor
open Go.RowKit Go.Cas Go.Cas.Enc

def endP (L : Lay) (S : MSt) (s : CSt) : (Nat × Nat × Nat × Nat × Bool) × CSt := codeP L S 2 0 0 4294967295 0 s
def getP (L : Lay) (S : MSt) (s : CSt) : (Nat × Nat × Nat × Nat × Bool) × CSt := codeP L S 0 0 0 4294967295 0 s

set_option maxRecDepth 100000 in
theorem codeP_end {L : Lay} {S : MSt} {kd ds n d y : Nat} {s : CSt} (h : (codeP L S kd ds n d y s).1.2.2.2.2 = true) : (codeP L S kd ds n d y s).1 = (0, 0, 0, 0, true) := by
  unfold codeP at h ⊢
  dsimp only at h ⊢
  generalize (if kd = 1 then 0 else 1) = v1 at *
  generalize (if kd = 2 then 0 else 1) = v2 at *
  generalize bitP 0 (10 + 16 * S.st + placeN L S) v1 s = a at *
  by_cases h1 : a.1 = 0
  · rw [if_pos h1] at h; cases h
  · rw [if_neg h1] at h ⊢
    generalize bitP 0 (202 + S.st) v2 a.2 = r at *
    by_cases h2 : r.1 = 1
    · rw [if_pos h2] at h; cases h
    · rw [if_neg h2] at h ⊢
      generalize farP (placeN L S) d n r.2 = g at *
      by_cases h3 : g.1.1 = 4294967295
      · rw [if_pos h3]
      · rw [if_neg h3] at h; cases h

set_option maxHeartbeats 8000000 in
set_option maxRecDepth 100000 in
theorem mputend_any (w : World) (L : Lay) (S : MSt) (P : Prb) (q : Option Addr) (cap x : Nat) (E : Cas.Enc) (F : Nat → Prop) (k : Nat) (h : MC w L S P q cap x (.enc E) F) (hk : (Cdr.enc E).n ≤ k) (hk2 : k ≤ 60000000) :
    Calls Tryz.prog 33 #[.pointer (some ⟨L.φ 0, 0, none⟩), .pointer (some ⟨x, 0, none⟩)] w fun z w' =>
      z = .returned (.tuple #[]) ∧ LeftM w w' L S x (fun b => MF L q b ∨ F b) (endP L S (.enc E, P)).2 ∧ (endP L S (.enc E, P)).2.1.n ≤ k + 300 := by
  have HCode := hid (mcode_any w L S P q cap x (.enc E) F 2 0 0 4294967295 k 0 0 true h hk hk2 (by decide) (by decide) (by decide) (fun hc => by cases hc) (by decide) (fun hc => by cases hc) (fun _ => ⟨by decide, fun hc => (by cases hc), fun hc => (by cases hc), fun _ hc => (by cases hc), fun _ => ⟨rfl, rfl, rfl⟩⟩))
  have hR' : codeP L S 2 0 0 4294967295 (0 : UInt8).toNat (.enc E, P) = endP L S (.enc E, P) := rfl
  rw [hR'] at HCode
  generalize endP L S (.enc E, P) = R at *
  unfold ifV ifT at HCode
  clear h hR' hk
  go_enter Tryz.func33, Tryz.ntmps33
  go_wp2_with fail
  refine HCode.out.mono ?_
  rintro z w5 ⟨rfl, hc5⟩
  have HC5 := hid hc5
  clear hc5
  go_wp2_with fail
  go_end0
  exact ⟨rfl, HC5.out.1.left, HC5.out.2⟩

/-- The packet that was got. -/
def gotP (L : Lay) (S : MSt) (s : CSt) : Pk := ⟨(getP L S s).1.1, (getP L S s).1.2.1, (getP L S s).1.2.2.1, UInt8.ofNat (getP L S s).1.2.2.2.1⟩
def gotE (L : Lay) (S : MSt) (s : CSt) : Bool := (getP L S s).1.2.2.2.2

theorem Coded.told_around {w w0 w5 w6 w7 w8 : World} {L : Lay} {S S' : MSt} {P : Prb} {q : Option Addr} {cap x B : Nat} {C : Cdr} {F : Nat → Prop} {s : CSt} (h : MC w L S P q cap x C F) (hs : Same w w0) (hc : Coded w0 w5 L S q cap x F s)
    (hk6 : Keeps (fun b => b = B) w5 w6) (hB : w.heap.size ≤ B) (hB2 : B < w0.heap.size) (h7 : ToldLeft w6 w7 L S' s.2 q) (hk8 : Keeps (fun b => b = B) w7 w8) : LeftM w w8 L S' x (fun b => MF L q b ∨ F b) s := by
  obtain ⟨F5, hM5, hK5, hG5⟩ := hc
  have hnB : ∀ b, MF L q b ∨ F5 b ∨ b = 0 → ¬ b = B := fun b hb e => by
    subst e
    rcases hb with hb | hb | rfl
    · have := h.mm.lt b hb; omega
    · rcases hG5 b hb with hf | hf
      · have := h.cm.lt b hf; omega
      · omega
    · have := h.mm.beh.1; omega
  have hM6 := hM5.keeps hk6 hnB
  obtain ⟨q', cap', F', hM7, hK7, hG7⟩ := hM6.told h7
  have hz : w0.heap.size ≤ w6.heap.size := Nat.le_trans hK5.size hk6.size
  have hnB2 : ∀ b, MF L q' b ∨ F' b ∨ b = 0 → ¬ b = B := fun b hb e => by
    have key : MF L q' b ∨ F' b → False := fun hb2 => by
      rcases hG7 b hb2 with (hf | hf) | hf
      · exact hnB b (.inl hf) e
      · exact hnB b (.inr (.inl hf)) e
      · omega
    rcases hb with hb | hb | hb
    · exact key (.inl hb)
    · exact key (.inr hb)
    · exact hnB b (.inr (.inr hb)) e
  have g5 : ∀ b, b < w.heap.size → F5 b → F b := fun b hb hf => (hG5 b hf).resolve_right (by have := hs.size; omega)
  refine ⟨q', cap', F', hM7.keeps hk8 hnB2, ?_, fun b hb => ?_⟩
  · have k1 : Keeps (fun b => MF L q b ∨ F b) w w5 := (Keeps.of_same hs).trans (hK5.mono fun b _ hb => hb.imp .inl id)
    have k2 : Keeps (fun b => MF L q b ∨ F b) w w6 := k1.trans' hk6 fun b hb e => by omega
    have k3 : Keeps (fun b => MF L q b ∨ F b) w w7 := k2.trans' hK7 fun b hb e => e.imp id (g5 b hb)
    exact k3.trans' hk8 fun b hb e => by omega
  · rcases hG7 b hb with (hf | hf) | hf
    · exact .inl (.inl hf)
    · rcases hG5 b hf with hf | hf
      · exact .inl (.inr hf)
      · exact .inr (Nat.le_trans hs.size hf)
    · exact .inr (Nat.le_trans hs.size (Nat.le_trans hz hf))

set_option maxHeartbeats 8000000 in
set_option maxRecDepth 100000 in
theorem mget_any (w : World) (L : Lay) (S : MSt) (P : Prb) (q : Option Addr) (cap x : Nat) (D : Dec) (F : Nat → Prop) (h : MC w L S P q cap x (.dec D) F) (hr : gotE L S (.dec D, P) = false → Room L S (gotP L S (.dec D, P))) :
    Calls Tryz.prog 95 #[.pointer (some ⟨L.φ 0, 0, none⟩), .pointer (some ⟨x, 0, none⟩)] w fun z w' =>
      z = .returned (.tuple #[pk (gotP L S (.dec D, P)).k (gotP L S (.dec D, P)).d (gotP L S (.dec D, P)).l ((gotP L S (.dec D, P)).y.toNat : Int), .bool (gotE L S (.dec D, P)), .bool true]) ∧
      LeftM w w' L (if gotE L S (.dec D, P) = true then S else tellS S (gotP L S (.dec D, P))) x (fun b => MF L q b ∨ F b) (getP L S (.dec D, P)).2 := by
  have HCode := hid (fun (w0 : World) (hm : MC w0 L S P q cap x (.dec D) F) => mcode_any w0 L S P q cap x (.dec D) F 0 0 0 4294967295 0 0 0 false hm (Nat.le_refl _) (by decide) (by decide) (by decide) (by decide) (fun _ => rfl) (by decide) (fun _ => ⟨rfl, rfl⟩) (fun hc => by cases hc))
  have hR' : codeP L S 0 0 0 4294967295 (0 : UInt8).toNat (.dec D, P) = getP L S (.dec D, P) := rfl
  rw [hR'] at HCode
  have hend : gotE L S (.dec D, P) = true → (getP L S (.dec D, P)).1 = (0, 0, 0, 0, true) := fun he => codeP_end he
  unfold gotP gotE at *
  generalize getP L S (.dec D, P) = R at *
  unfold ifV ifT at HCode
  obtain ⟨⟨r1, r2, r3, r4, re⟩, s⟩ := R
  dsimp only at *
  obtain ⟨ry, hry⟩ : ∃ ry, UInt8.ofNat r4 = ry := ⟨_, rfl⟩
  have HTell := hid (fun (w0 : World) (P0 : Prb) (hm : MM w0 L S P0 q cap) (he : re = false) => mtell_any w0 L S P0 q cap _ hm (hr he))
  rw [hry] at HCode HTell ⊢
  dsimp only at HTell
  have HRY := hid hry
  have HM := hid h
  have HEnd := hid hend
  obtain ⟨S', hS'⟩ : ∃ S', tellS S ⟨r1, r2, r3, ry⟩ = S' := ⟨_, rfl⟩
  rw [hS'] at HTell ⊢
  clear h hR' hr hry hend hS'
  go_enter Tryz.func95, Tryz.ntmps95
  go_upto_region 3 with fail
  have hb0 : Blk (w.alloc (.cells #[i6 0, i6 0, i6 0, .int .u8 0] PkT)) w.heap.size #[i6 0, i6 0, i6 0, .int .u8 0] PkT := (Blk.new _ _ _)
  have hs0 : Same w (w.alloc (.cells #[i6 0, i6 0, i6 0, .int .u8 0] PkT)) := (Keeps.refl _ _).alloc _
  generalize w.alloc (.cells #[i6 0, i6 0, i6 0, .int .u8 0] PkT) = w0 at hb0 hs0 ⊢
  obtain ⟨B, hB⟩ : ∃ B, w.heap.size = B := ⟨_, rfl⟩
  rw [hB] at hb0 ⊢
  have HB := hid (And.intro hB (And.intro hb0 hs0))
  clear hB hb0 hs0
  go_wp2_with fail
  refine (HCode.out _ (HM.out.same HB.out.2.2)).mono ?_
  rintro z w5 ⟨rfl, hc5⟩
  have hb5 := Coded.blk HM.out hc5.1 HB.out.2.1 (Nat.le_of_eq HB.out.1)
  have hb5c := hb5.four
  have z0 := hb5.frozen 0
  have z1 := hb5.frozen 1
  have z2 := hb5.frozen 2
  have z3 := hb5.frozen 3
  have HC5 := hid (And.intro hc5 hb5)
  clear hc5 hb5
  go_upto_region 4 with fail
  have hg6 : Coded w ((((w5.setCell ⟨B, 0, none⟩ (i6 r1)).setCell ⟨B, 1, none⟩ (i6 r2)).setCell ⟨B, 2, none⟩ (i6 r3)).setCell ⟨B, 3, none⟩ (b8 ry)) L S q cap x F s :=
    Coded.around HM.out HB.out.2.2 HC5.out.1.1 (by (repeat (first | exact Keeps.refl _ _ | refine Keeps.setCell ?_ (fun _ => by simp) _)) : Keeps (fun b => b = B) w5 _) (fun b hb => by subst hb; have := HB.out.1; have := HB.out.2.1.lt; omega)
  have hb6 : Blk ((((w5.setCell ⟨B, 0, none⟩ (i6 r1)).setCell ⟨B, 1, none⟩ (i6 r2)).setCell ⟨B, 2, none⟩ (i6 r3)).setCell ⟨B, 3, none⟩ (b8 ry)) B #[i6 r1, i6 r2, i6 r3, b8 ry] PkT := HC5.out.2.set4 (i6 r1) (i6 r2) (i6 r3) (b8 ry)
  have hk6 : Keeps (fun b => b = B) w5 ((((w5.setCell ⟨B, 0, none⟩ (i6 r1)).setCell ⟨B, 1, none⟩ (i6 r2)).setCell ⟨B, 2, none⟩ (i6 r3)).setCell ⟨B, 3, none⟩ (b8 ry)) := by
    repeat (first | exact Keeps.refl _ _ | refine Keeps.setCell ?_ (fun _ => by simp) _)
  generalize (((w5.setCell ⟨B, 0, none⟩ (i6 r1)).setCell ⟨B, 1, none⟩ (i6 r2)).setCell ⟨B, 2, none⟩ (i6 r3)).setCell ⟨B, 3, none⟩ (b8 ry) = w6 at hg6 hb6 hk6 ⊢
  have HG6 := hid (And.intro hg6 (And.intro hb6 hk6))
  have hb6c := hb6.four
  have y0 := hb6.frozen 0
  have y1 := hb6.frozen 1
  have y2 := hb6.frozen 2
  have y3 := hb6.frozen 3
  clear hg6 hb6 hk6 hb5c z0 z1 z2 z3
  cases re with
  | true =>
    have hz : r1 = 0 ∧ r2 = 0 ∧ r3 = 0 ∧ r4 = 0 := by
      have := HEnd.out rfl
      simp only [Prod.mk.injEq, and_true] at this
      exact this
    have HZ := hid hz
    clear hz
    go_wp2_with fail
    refine bodyPost_ret (v := .tuple #[pk 0 0 0 0, .bool true, .bool true]) (by simp [results, Tryz.results95, go_sem, hb6c.1, hb6c.2.1, hb6c.2.2.1, hb6c.2.2.2.1, y0, y1, y2, y3]) rfl ?_
    have hl : LeftM w ((((w6.setCell ⟨B, 0, none⟩ (i6 0)).setCell ⟨B, 1, none⟩ (i6 0)).setCell ⟨B, 2, none⟩ (i6 0)).setCell ⟨B, 3, none⟩ (.int .u8 0)) L S x (fun b => MF L q b ∨ F b) s :=
      Coded.left (Coded.around HM.out HB.out.2.2 HC5.out.1.1 (HG6.out.2.2.trans (by (repeat (first | exact Keeps.refl _ _ | refine Keeps.setCell ?_ (fun _ => by simp) _)) : Keeps (fun b => b = B) w6 _)) (fun b hb => by subst hb; have := HB.out.1; have := HB.out.2.1.lt; omega))
    obtain ⟨rfl, rfl, rfl, rfl⟩ := HZ.out
    obtain rfl : ry = 0 := by rw [← HRY.out]; rfl
    exact ⟨rfl, hl⟩
  | false =>
    go_wp2_with fail
    obtain ⟨F6, hM6, hK6, hG6⟩ := HG6.out.1
    refine (HTell.out _ _ hM6.mm (by trivial)).mono ?_
    rintro z w7 ⟨rfl, h7⟩
    have HFin := hid h7
    have hb7 : Blk w7 B #[i6 r1, i6 r2, i6 r3, b8 ry] PkT := by
      obtain ⟨q', cap', hM, hK, hG⟩ := h7
      refine HG6.out.2.1.keeps hK fun e => ?_
      rcases e with e | e
      · have := (HM.out.mm.blk 0 (used_small (by decide) (by decide))).lt; have := HB.out.1; omega
      · have := HM.out.mm.lt B (.inr (.inr e)); have := HB.out.1; omega
    have u0 := hb7.four
    have z0 := hb7.frozen 0
    have z1 := hb7.frozen 1
    have z2 := hb7.frozen 2
    have z3 := hb7.frozen 3
    have HB7 := hid hb7
    clear hb7 h7 hM6 hK6 hG6 hb6c y0 y1 y2 y3
    go_wp2_with fail
    refine bodyPost_ret (v := .tuple #[pk r1 r2 r3 (ry.toNat : Int), .bool false, .bool true]) (by simp [results, Tryz.results95, go_sem, u0.1, u0.2.1, u0.2.2.1, u0.2.2.2.1, z0, z1, z2, z3]) rfl ?_
    have hl : LeftM w ((((w7.setCell ⟨B, 0, none⟩ (i6 r1)).setCell ⟨B, 1, none⟩ (i6 r2)).setCell ⟨B, 2, none⟩ (i6 r3)).setCell ⟨B, 3, none⟩ (b8 ry)) L S' x (fun b => MF L q b ∨ F b) s :=
      Coded.told_around HM.out HB.out.2.2 HC5.out.1.1 HG6.out.2.2 (Nat.le_of_eq HB.out.1) HB.out.2.1.lt HFin.out (by (repeat (first | exact Keeps.refl _ _ | refine Keeps.setCell ?_ (fun _ => by simp) _)) : Keeps (fun b => b = B) w7 _)
    exact ⟨rfl, hl⟩
end Go.Proofs.YtalopgbkjgjppaaGreatDoor

/- The walks of model.begin, probs.New. -/
namespace Go.Proofs.YtalopgbkjgjppaaGreatDoor
open Go.RowKit Go.Cas Go.Cas.Enc

def fillN (cs : Array Value) (o : Nat) : Nat → Array Value
  | 0 => cs
  | k + 1 => (fillN cs o k).setIfInBounds (o + k) (v16 1024)
theorem fillN_size (cs : Array Value) (o : Nat) : ∀ k, (fillN cs o k).size = cs.size
  | 0 => rfl
  | k + 1 => by rw [fillN, Array.size_setIfInBounds, fillN_size cs o k]
theorem fillN_get (cs : Array Value) (o : Nat) : ∀ k i, (fillN cs o k)[i]? = if o ≤ i ∧ i < o + k ∧ i < cs.size then some (v16 1024) else cs[i]?
  | 0, i => by rw [if_neg (by omega)]; rfl
  | k + 1, i => by
    rw [fillN, Array.getElem?_setIfInBounds, fillN_get cs o k i, fillN_size]
    by_cases h : o + k = i
    · subst h
      rw [if_pos rfl]
      by_cases h2 : o + k < cs.size
      · rw [if_pos h2, if_pos (by omega)]
      · rw [if_neg h2, if_neg (by omega)]; simp; omega
    · rw [if_neg h]
      by_cases h2 : o ≤ i ∧ i < o + k ∧ i < cs.size
      · rw [if_pos h2, if_pos (by omega)]
      · rw [if_neg h2, if_neg (by omega)]

set_option maxHeartbeats 2000000 in
set_option maxRecDepth 100000 in
theorem mbegin_any (g o n cap : Nat) (cs : Array Value) (t : TypeId) (w : World) (hB : Blk w g cs t) (hn : o + n ≤ cs.size) (hn2 : n ≤ 100000000) :
    Calls Tryz.prog 61 #[.slice (some ⟨g, o, none⟩) n cap] w fun z w' => z = .returned (.tuple #[]) ∧ Blk w' g (fillN cs o n) t ∧ Keeps (fun b => b = g) w w' := by
  go_enter Tryz.func61, Tryz.ntmps61
  go_wp2_with fail
  go_loopw [5] (fun s5 wr => ∃ k : Nat, s5 = i6 k ∧ k ≤ n ∧ Blk wr g (fillN cs o k) t ∧ Keeps (fun b => b = g) w wr) (fun s5 _ => n - (intOf s5).toNat)
  case atStart => exact ⟨0, rfl, Nat.zero_le _, hB, Keeps.refl _ _⟩
  case round =>
    clear hB
    obtain ⟨k, rfl, hk, hB, hK⟩ := hrel
    by_cases he : k = n
    · subst he
      have d0 : decide ((k : Int) < (k : Int)) = false := by simp
      have HX := hid (And.intro hB hK)
      clear hB hK
      go_wp2_with fail
      go_end0
      exact ⟨rfl, HX.out⟩
    · have hlt : k < n := by omega
      have d0 : decide ((k : Int) < (n : Int)) = true := by simpa using hlt
      have hc : wr.cell? ⟨g, o + k, none⟩ = some (((fillN cs o k)[o + k]?).getD undef) := by
        rw [hB.cell]
        have : o + k < (fillN cs o k).size := by rw [fillN_size]; omega
        simp [this]
      have hz := hB.frozen (o + k)
      generalize ((fillN cs o k)[o + k]?).getD undef = old at hc
      have fk : IntKind.i64.wrap ((k : Int) + 1) = (k : Int) + 1 := IntWalk.i64_in _ (by omega)
      have HX := hid (And.intro hB hK)
      have h0 : (0 : Int) ≤ (k : Int) := by omega
      clear hB hK he
      go_wp2_with fail
      go_roundw
      case rel => exact ⟨k + 1, by go_num, by omega, HX.out.1.set (o + k) (v16 1024), HX.out.2.setCell (p := ⟨g, o + k, none⟩) (fun _ => rfl) _⟩
      case measure => simp [intOf]; omega
end Go.Proofs.YtalopgbkjgjppaaGreatDoor

/- The walk of probs.New. -/
namespace Go.Proofs.YtalopgbkjgjppaaGreatDoor
open Go.RowKit Go.Cas Go.Cas.Enc

theorem info16 : (Tryz.prog.info? T16).map (fun i => (i.zero, i.size, i.bytes)) = some (some (.int .u16 0), 1, 2) := by kernel_rfl
theorem undTree : Tryz.prog.underlying 118 = some (.slice T16) := by kernel_rfl
theorem made_size (K : Nat) : (madeCells #[Value.int .u16 0] K).size = K := by simp [madeCells]
theorem fill_row (cs : Array Value) (K : Nat) (h : cs.size = K) : fillN cs 0 K = rowP (fun _ => 1024) K := by
  apply Array.ext_getElem?
  intro i
  rw [fillN_get]
  by_cases hi : i < K
  · rw [if_pos (by omega), rowP_get _ hi]
  · rw [if_neg (by omega)]
    have h2 : (rowP (fun _ => 1024) K)[i]? = none := by simp [rowP]; omega
    rw [h2]; simp; omega

set_option maxHeartbeats 2000000 in
set_option maxRecDepth 100000 in
theorem pnew_any (n : Nat) (w : World) (hn : n ≤ 16) :
    Calls Tryz.prog 60 #[i6 n] w fun z w' => ∃ g, z = .returned (.slice (some ⟨g, 0, none⟩) (2 ^ n : Nat) (2 ^ n : Nat)) ∧ Blk w' g (rowP (fun _ => 1024) (2 ^ n)) T16 ∧ w.heap.size ≤ g ∧ Same w w' := by
  obtain ⟨K, hK⟩ : ∃ K, (2 : Nat) ^ n = K := ⟨_, rfl⟩
  have hK2 : K ≤ 65536 := by rw [← hK]; exact Nat.pow_le_pow_right (by decide) hn
  have hK0 : 0 < K := by rw [← hK]; exact Nat.pow_pos (by decide)
  have e1 : (2 : Int) ^ n = (K : Int) := by rw [← hK]; push_cast; rfl
  have e2 : min (max (n : Int) 0) 16 = (n : Int) := by omega
  have e3 : IntKind.i64.wrap (K : Int) = (K : Int) := IntWalk.i64_in _ (by omega)
  rw [hK]
  have e4 : wrap64 ((2 : Int) ^ n) = (K : Int) := by rw [e1]; exact IntWalk.wrap64_in _ (by omega)
  have e5 : min (n : Int) 16 = (n : Int) := by omega
  have hmk := fun w0 => run_make_row' (P := Tryz.prog) 118 T16 (.int .u16 0) 2 undTree info16 rfl .i64 .i64 K (by omega) (by omega) w0
  have hms := made_size K
  have hnn : (n : Int).toNat = n := Int.toNat_natCast n
  generalize madeCells #[Value.int .u16 0] K = cs at *
  have HMS := hid hms
  clear hK hms e1
  go_enter Tryz.func60, Tryz.ntmps60
  go_wp2_with fail
  have hB0 : Blk (w.alloc (.cells cs T16)) w.heap.size cs T16 := Blk.new _ _ _
  have hs0 : Same w (w.alloc (.cells cs T16)) := (Keeps.refl _ _).alloc _
  generalize w.alloc (.cells cs T16) = w0 at hB0 hs0 ⊢
  obtain ⟨g, hg⟩ : ∃ g, w.heap.size = g := ⟨_, rfl⟩
  rw [hg] at hB0 ⊢
  have HG := hid hg
  have HS := hid hs0
  clear hg hs0
  go_loopw [12] (fun s12 wr => ∃ k : Nat, s12 = i6 k ∧ k ≤ K ∧ Blk wr g (fillN cs 0 k) T16 ∧ Keeps (fun b => b = g) w0 wr) (fun s12 _ => K - (intOf s12).toNat)
  case atStart => exact ⟨0, rfl, Nat.zero_le _, hB0, Keeps.refl _ _⟩
  case round =>
    clear hB0
    obtain ⟨k, rfl, hk, hB, hK⟩ := hrel
    by_cases he : k = K
    · subst he
      have d0 : decide ((k : Int) < (k : Int)) = false := by simp
      have HX := hid (And.intro hB hK)
      clear hB hK
      go_wp2_with fail
      go_ret
      refine ⟨g, rfl, by rw [← fill_row cs k HMS.out]; exact HX.out.1, by rw [HG.out]; exact Nat.le_refl _, HS.out.trans' HX.out.2 fun b hb e => by have := HG.out; omega⟩
    · have hlt : k < K := by omega
      have d0 : decide ((k : Int) < (K : Int)) = true := by simpa using hlt
      have hc : wr.cell? ⟨g, k, none⟩ = some (((fillN cs 0 k)[k]?).getD undef) := by
        rw [hB.cell]
        have : k < (fillN cs 0 k).size := by rw [fillN_size, HMS.out]; exact hlt
        simp [this]
      have hz := hB.frozen k
      generalize ((fillN cs 0 k)[k]?).getD undef = old at hc
      have fk : IntKind.i64.wrap ((k : Int) + 1) = (k : Int) + 1 := IntWalk.i64_in _ (by omega)
      have HX := hid (And.intro hB hK)
      have h0 : (0 : Int) ≤ (k : Int) := by omega
      clear hB hK he
      go_wp2_with fail
      go_roundw
      case rel => exact ⟨k + 1, by go_num, by omega, by have := HX.out.1.set (0 + k) (v16 1024); rw [Nat.zero_add] at this; unfold fillN; rw [Nat.zero_add]; exact this, HX.out.2.setCell (p := ⟨g, k, none⟩) (fun _ => rfl) _⟩
      case measure => simp [intOf]; omega
end Go.Proofs.YtalopgbkjgjppaaGreatDoor

/- The walk of Params.Good. -/
namespace Go.Proofs.YtalopgbkjgjppaaGreatDoor
open Go.RowKit Go.Cas Go.Cas.Enc

set_option maxHeartbeats 2000000 in
set_option maxRecDepth 100000 in
theorem good_any (lc lp pb : Nat) (w : World) (h1 : lc + lp ≤ 4) (h2 : pb ≤ 4) :
    Calls Tryz.prog 29 #[.agg #[i6 lc, i6 lp, i6 pb]] w fun z w' => z = .returned (.bool true) ∧ Same w w' := by
  have d1 : decide ((lc : Int) ≥ 0) = true := by simp
  have d2 : decide ((lp : Int) ≥ 0) = true := by simp
  have d3 : decide ((lc : Int) ≤ 4) = true := by simp; omega
  have d4 : decide ((lp : Int) ≤ 4 - (lc : Int)) = true := by simp; omega
  have d5 : decide ((pb : Int) ≥ 0) = true := by simp
  have d6 : decide ((pb : Int) ≤ 4) = true := by simp; omega
  have e1 : IntKind.i64.wrap (4 - (lc : Int)) = 4 - (lc : Int) := IntWalk.i64_in _ (by omega)
  have hs : Same w (w.alloc (.cells #[i6 lc, i6 lp, i6 pb] 26)) := (Keeps.refl _ _).alloc _
  have HS := hid hs
  clear hs
  go_enter Tryz.func29, Tryz.ntmps29
  go_wp2_with fail
  go_ret
  exact ⟨rfl, HS.out⟩
end Go.Proofs.YtalopgbkjgjppaaGreatDoor
