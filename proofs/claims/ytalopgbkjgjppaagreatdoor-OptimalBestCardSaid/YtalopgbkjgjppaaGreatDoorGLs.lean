/- Part of a proof: Ls, Of. -/
import Derived.Test.YtalopgbkjgjppaaGreatDoorPn
/- The document's Least. -/
namespace Go.Proofs.YtalopgbkjgjppaaGreatDoor
open Go.RowKit Go.Cas

/-- A match that there is. -/
def Val (s : List UInt8) (W : Int) (i d n : Nat) : Prop := 1 ≤ d ∧ d ≤ i ∧ (d : Int) ≤ W ∧ 2 ≤ n ∧ n ≤ aliN s (i - d) i

/-- The best that is known of a place: by all matches ahead of (d0, n0). -/
structure BestOf (t : Tab) (s : List UInt8) (W : Int) (A : Rows2) (i d0 n0 : Nat) (b : Int) : Prop where
  lit : b ≤ t.lit + A (false, i + 1)
  all : ∀ d n, Val s W i d n → (d < d0 ∨ d = d0 ∧ n < n0) → b ≤ t.edge n d + A (false, i + n)
  got : b = t.lit + A (false, i + 1) ∨ ∃ d n, Val s W i d n ∧ b = t.edge n d + A (false, i + n)

/-- The least prices from the place k on. -/
structure LeastFrom (t : Tab) (s : List UInt8) (W : Int) (A : Rows2) (k : Nat) : Prop where
  fin : A (false, s.length) = 0
  best : ∀ j, k ≤ j → j < s.length → BestOf t s W A j (j + 1) 0 (A (false, j))
  low : ∀ j, k ≤ j → j ≤ s.length → 0 ≤ A (false, j)
  high : ∀ j, k ≤ j → j ≤ s.length → A (false, j) ≤ (s.length - j) * 10000

theorem val_in {s : List UInt8} {W : Int} {i d n : Nat} (h : Val s W i d n) : i + n ≤ s.length ∧ n ≤ 273 ∨ s.length < i := by
  have := aliN_le s (i - d) i
  have := h.2.2.2.2
  have := h.2.2.2.1
  omega

theorem BestOf.put {t : Tab} {s : List UInt8} {W : Int} {A : Rows2} {i d0 n0 : Nat} {b : Int} (h : BestOf t s W A i d0 n0 b) (k : Nat) (v : Int) (hk : k ≤ i) : BestOf t s W (A.put (false, k) v) i d0 n0 b := by
  have e : ∀ n, 1 ≤ n → (A.put (false, k) v) (false, i + n) = A (false, i + n) := fun n hn => put_other _ _ (fun e => by have := (Prod.mk.inj e).2; omega)
  refine ⟨by rw [e 1 (Nat.le_refl _)]; exact h.lit, fun d n hv hd => by rw [e n (by have := hv.2.2.2.1; omega)]; exact h.all d n hv hd, ?_⟩
  rcases h.got with g | ⟨d, n, hv, g⟩
  · exact .inl (by rw [e 1 (Nat.le_refl _)]; exact g)
  · exact .inr ⟨d, n, hv, by rw [e n (by have := hv.2.2.2.1; omega)]; exact g⟩

theorem LeastFrom.step {t : Tab} {s : List UInt8} {W : Int} {A : Rows2} {i : Nat} {b : Int} (ht : t.good) (h : LeastFrom t s W A (i + 1)) (hi : i < s.length) (hb : BestOf t s W A i (i + 1) 0 b) : LeastFrom t s W (A.put (false, i) b) i := by
  have e : ∀ j, i + 1 ≤ j → (A.put (false, i) b) (false, j) = A (false, j) := fun j hj => put_other _ _ (fun e => by have := (Prod.mk.inj e).2; omega)
  have hl := ht.1
  unfold okP at hl
  refine ⟨by rw [e _ (by omega)]; exact h.fin, fun j hj hjl => ?_, fun j hj hjl => ?_, fun j hj hjl => ?_⟩
  · by_cases hji : j = i
    · subst hji
      rw [put_same]
      exact hb.put _ _ (Nat.le_refl _)
    · rw [e j (by omega)]
      exact (h.best j (by omega) hjl).put _ _ (by omega)
  · by_cases hji : j = i
    · subst hji
      rw [put_same]
      rcases hb.got with g | ⟨d, n, hv, g⟩
      · have := h.low (j + 1) (Nat.le_refl _) (by omega); omega
      · have h1 := t.edge_ok ht n d
        have h2 := hv.2.2.2.1
        have h3 := val_in hv
        have := h.low (j + n) (by omega) (by omega)
        omega
    · rw [e j (by omega)]; exact h.low j (by omega) hjl
  · by_cases hji : j = i
    · subst hji
      rw [put_same]
      have := h.high (j + 1) (Nat.le_refl _) (by omega)
      have := hb.lit
      push_cast at *
      omega
    · rw [e j (by omega)]; exact h.high j (by omega) hjl

def LeastLeft (w w' : World) (z : Ending) (t : Tab) (s : List UInt8) (W : Int) : Prop :=
  ∃ g A, z = .returned (.slice (some ⟨g, 0, none⟩) (s.length + 1) (s.length + 1)) ∧ w'.cell? ⟨g, 0, none⟩ = some (i6 ((A : Rows2) (false, 0))) ∧ Same w w' ∧ LeastFrom t s W A 0

end Go.Proofs.YtalopgbkjgjppaaGreatDoor

/- price.Of, Good, Common. -/
namespace Go.Proofs.YtalopgbkjgjppaaGreatDoor
open Go.RowKit Go.Cas

def priceP (t : Tab) (p : Pk) : Int := if p.k = 1 then t.lit else t.edge p.l.toNat p.d.toNat
def sumP (t : Tab) : List Pk → Int
  | [] => 0
  | p :: l => priceP t p + sumP t l

/-- Bytes and matches. -/
def Plains (l : List Pk) : Prop := ∀ p ∈ l, p.k = 1 ∨ p.k = 2 ∧ 1 ≤ p.d ∧ p.d ≤ 1000000 ∧ 0 ≤ p.l ∧ p.l ≤ 1000000

theorem priceP_ok (t : Tab) (ht : t.good) (p : Pk) : 1 ≤ priceP t p ∧ priceP t p ≤ 660000 := by
  unfold priceP
  split
  · have := ht.1; unfold okP at this; omega
  · have := t.edge_ok ht p.l.toNat p.d.toNat; omega

theorem sumP_snoc (t : Tab) : ∀ (l : List Pk) (p : Pk), sumP t (l ++ [p]) = sumP t l + priceP t p
  | [], p => by simp [sumP]
  | q :: l, p => by rw [List.cons_append, sumP, sumP, sumP_snoc t l p]; omega

theorem sumP_take (t : Tab) (l : List Pk) (k : Nat) (p : Pk) (h : l[k]? = some p) : sumP t (l.take (k + 1)) = sumP t (l.take k) + priceP t p := by
  have hk : k < l.length := (List.getElem?_eq_some_iff.1 h).1
  rw [List.take_add_one, h]
  exact sumP_snoc t _ p

theorem sumP_small (t : Tab) (ht : t.good) : ∀ (l : List Pk), 0 ≤ sumP t l ∧ sumP t l ≤ l.length * 660000
  | [] => by simp [sumP]
  | p :: l => by
    have h1 := priceP_ok t ht p
    have h2 := sumP_small t ht l
    rw [sumP, List.length_cons]
    push_cast
    omega

set_option maxHeartbeats 4000000 in
set_option maxRecDepth 100000 in
theorem of_any (t : Tab) (ht : t.good) (q : Option Addr) (cap : Nat) (l : List Pk) (w : World) (hP : Pks w q cap l) (hl : Plains l) (hn : l.length ≤ 1000000) :
    Calls Tryz.prog 15 #[t.val, .slice q l.length cap] w fun z w' => z = .returned (.tuple #[i6 (sumP t l), .bool true]) ∧ Same w w' := by
  unfold Tab.val
  have hbT : Blk (w.alloc (.cells #[i6 t.lit, i6 t.mat, i6 t.near, i6 t.far, i6 t.bit] 43)) w.heap.size #[i6 t.lit, i6 t.mat, i6 t.near, i6 t.far, i6 t.bit] 43 := Blk.new _ _ _
  have hPT : Pks (w.alloc (.cells #[i6 t.lit, i6 t.mat, i6 t.near, i6 t.far, i6 t.bit] 43)) q cap l := hP.keeps ((Keeps.refl (fun _ => False) w).alloc _) (fun _ _ h => h)
  have hsT : Same w (w.alloc (.cells #[i6 t.lit, i6 t.mat, i6 t.near, i6 t.far, i6 t.bit] 43)) := (Keeps.refl _ _).alloc _
  have HPl := hid hl
  clear hP hl
  go_enter Tryz.func15, Tryz.ntmps15
  go_wp2_with fail
  generalize w.heap.size = bt at hbT ⊢
  go_loopw [6, 11] (fun s6 s11 wx => ∃ (k : Nat), s6 = i6 (sumP t (l.take k)) ∧ s11 = i6 k ∧ k ≤ l.length ∧ Blk wx bt #[i6 t.lit, i6 t.mat, i6 t.near, i6 t.far, i6 t.bit] 43 ∧ Pks wx q cap l ∧ Same w wx) (fun _ s11 _ => l.length - (intOf s11).toNat)
  case atStart => exact ⟨0, rfl, rfl, Nat.zero_le _, hbT, hPT, hsT⟩
  case round =>
    clear hbT hPT hsT
    obtain ⟨k, rfl, rfl, hk, hb, hP, hsm⟩ := hrel
    by_cases hkl : k < l.length
    · obtain ⟨g, rfl⟩ := hP.ex (by omega)
      have hgk : l[k]? = some l[k] := by simp [hkl]
      obtain ⟨x0, x1, x2, x3⟩ := hP.at k _ hgk
      have hpl := HPl.out l[k] (List.getElem_mem hkl)
      have hst := sumP_take t l k _ hgk
      have hsx := sumP_small t ht (l.take k)
      have htk : (l.take k).length ≤ 1000000 := by rw [List.length_take]; omega
      have hpr := priceP_ok t ht l[k]
      obtain ⟨p, hp⟩ : ∃ p, l[k] = p := ⟨_, rfl⟩
      rw [hp] at x0 x1 x2 x3 hpl hst hpr
      obtain ⟨S, hS⟩ : ∃ S, sumP t (l.take k) = S := ⟨_, rfl⟩
      rw [hS] at hst hsx ⊢
      have hsx3 : (((l.take k).length : Nat) : Int) ≤ 1000000 := by omega
      have hsx2 : 0 ≤ S ∧ S ≤ 660000000000 := by omega
      clear hsx3
      have hbl := hb.lt
      obtain ⟨pk, pd, pl, py⟩ := p
      dsimp only at x0 x1 x2 x3 hpl
      have y0 := hb.cell 0
      have y1 := hb.cell 1
      have y2 := hb.cell 2
      have y3 := hb.cell 3
      have y4 := hb.cell 4
      simp only [List.getElem?_toArray, List.getElem?_cons_succ, List.getElem?_cons_zero] at y0 y1 y2 y3 y4
      have HST := hid hst
      have g0 : decide ((k : Int) < (l.length : Int)) = true := by simpa using hkl
      have hbA : Blk (wr.alloc (.cells #[i6 pk, i6 pd, i6 pl, b8 py] 39)) wr.heap.size #[i6 pk, i6 pd, i6 pl, b8 py] 39 := Blk.new _ _ _
      have hA0 := hbA.cell 0
      have hA1 := hbA.cell 1
      have hA2 := hbA.cell 2
      simp only [List.getElem?_toArray, List.getElem?_cons_succ, List.getElem?_cons_zero] at hA0 hA1 hA2
      have hbB := hb.alloc (.cells #[i6 pk, i6 pd, i6 pl, b8 py] 39)
      have hPB := hP.keeps ((Keeps.refl (fun _ => False) wr).alloc (.cells #[i6 pk, i6 pd, i6 pl, b8 py] 39)) (fun _ _ h => h)
      have hsB : Same w (wr.alloc (.cells #[i6 pk, i6 pd, i6 pl, b8 py] 39)) := hsm.alloc _
      rcases hpl with rfl | ⟨rfl, hd1, hd2, hl1, hl2⟩
      · have hpe : priceP t ⟨1, pd, pl, py⟩ = t.lit := rfl
        rw [hpe] at hpr
        have hwS : IntKind.i64.wrap (S + t.lit) = S + t.lit := IntWalk.i64_in _ (by omega)
        clear hst hS hgk hp hpe hsx
        go_wp2_with fail
        exact ⟨⟨k + 1, by rw [HST.out]; exact congrArg (Value.int .i64) (by show S + t.lit = S + priceP t _; rfl), by go_num, hkl, hbB, hPB, hsB⟩, by simp [intOf]; omega⟩
      · obtain ⟨dn, rfl⟩ : ∃ dn : Nat, pd = dn := ⟨pd.toNat, by omega⟩
        obtain ⟨ln, rfl⟩ : ∃ ln : Nat, pl = ln := ⟨pl.toNat, by omega⟩
        have hpe : priceP t ⟨2, dn, ln, py⟩ = t.edge ln dn := rfl
        rw [hpe] at hpr
        have q1 := t.dist_ok ht dn
        have q2 := t.len_ok ht ln
        have q3 := ht.2.1
        unfold okP at q3
        have hee : t.mat + t.len ln + t.dist dn = t.edge ln dn := rfl
        have w1 : IntKind.i64.wrap (t.mat + t.len ln) = t.mat + t.len ln := IntWalk.i64_in _ (by omega)
        have w2 : IntKind.i64.wrap (t.mat + t.len ln + t.dist dn) = t.mat + t.len ln + t.dist dn := IntWalk.i64_in _ (by omega)
        have w3 : IntKind.i64.wrap (S + (t.mat + t.len ln + t.dist dn)) = S + (t.mat + t.len ln + t.dist dn) := IntWalk.i64_in _ (by omega)
        have HLn := hid (fun w0 => plength_any t ln w0)
        have HDs := hid (fun w0 => pdist_any t ht dn w0 (by omega) (by omega))
        unfold Tab.val at HLn HDs
        have HEE := hid hee
        have HPE := hid hpe
        clear hst hS hgk hp hpe hsx hee
        have hrl : wr.heap.size < (wr.alloc (.cells #[i6 2, i6 dn, i6 ln, b8 py] 39)).heap.size := by simp
        have hbl2 : bt < (wr.alloc (.cells #[i6 2, i6 dn, i6 ln, b8 py] 39)).heap.size := hbB.lt
        have yB := fun i => hbB.cell i
        have y0' := yB 0
        have y1' := yB 1
        have y2' := yB 2
        have y3' := yB 3
        have y4' := yB 4
        simp only [List.getElem?_toArray, List.getElem?_cons_succ, List.getElem?_cons_zero] at y0' y1' y2' y3' y4'
        clear yB y0 y1 y2 y3 y4 hbA
        go_upto_region 10 with fail
        clear x0 x1 x2 x3
        have e0 : Value.int .u8 (py.toNat : Int) = b8 py := rfl
        generalize wr.alloc (.cells #[i6 2, i6 dn, i6 ln, b8 py] 39) = wA at *
        generalize wr.heap.size = fb at *
        refine wp_region_held_drew (S := (fun V => Same wA V)) (by kernel_rfl) (by (try dsimp only); exact (Keeps.refl _ _).drew) (fun hHeld => ?_)
        refine wpAnyH_take (i := 0) (oi := ⟨some 25, _, _, _, _, _⟩) (v := ?v0) rfl (by kernel_rfl) (by kernel_rfl) (by kernel_rfl) (fun _ _ _ h => h) (Or.inl ⟨by rfl, ?h0⟩) (by assumption) ?r0
        case h0 => intro w hSw; (try dsimp only at hSw); go_simp; (try with_reducible rfl)
        try simp only [Act.put, List.setIfInBounds_toArray, List.set_cons_zero, List.set_cons_succ]
        refine wpAnyH_take (i := 1) (oi := ⟨some 26, _, _, _, _, _⟩) (v := ?v1) rfl (by kernel_rfl) (by kernel_rfl) (by kernel_rfl) (fun _ _ _ h => h) (Or.inl ⟨by rfl, ?h1⟩) (by assumption) ?r1
        case h1 => intro w hSw; (try dsimp only at hSw); go_simp; (try with_reducible rfl)
        try simp only [Act.put, List.setIfInBounds_toArray, List.set_cons_zero, List.set_cons_succ]
        refine wpAnyH_take (i := 2) (oi := ⟨some 27, _, _, _, _, _⟩) (v := ?v2) rfl (by kernel_rfl) (by kernel_rfl) (by kernel_rfl) (fun _ _ _ h => h) (Or.inl ⟨by rfl, ?h2⟩) (by assumption) ?r2
        case h2 => intro w hSw; (try dsimp only at hSw); have q0 := (Keeps.cell hSw hbl2 (fun h => h)).trans y0'; have q1 := (Keeps.cell hSw hbl2 (fun h => h)).trans y1'; have q2 := (Keeps.cell hSw hbl2 (fun h => h)).trans y2'; have q3 := (Keeps.cell hSw hbl2 (fun h => h)).trans y3'; have q4 := (Keeps.cell hSw hbl2 (fun h => h)).trans y4'; have p0 := (Keeps.cell hSw hrl (fun h => h)).trans hA0; have p1 := (Keeps.cell hSw hrl (fun h => h)).trans hA1; have p2 := (Keeps.cell hSw hrl (fun h => h)).trans hA2; go_simp; (try with_reducible rfl)
        try simp only [Act.put, List.setIfInBounds_toArray, List.set_cons_zero, List.set_cons_succ]
        refine wpAnyH_take (i := 3) (oi := ⟨some 28, _, _, _, _, _⟩) (v := ?v3) rfl (by kernel_rfl) (by kernel_rfl) (by kernel_rfl) (fun _ _ _ h => h) (Or.inl ⟨by rfl, ?h3⟩) (by assumption) ?r3
        case h3 => intro w hSw; (try dsimp only at hSw); have q0 := (Keeps.cell hSw hbl2 (fun h => h)).trans y0'; have q1 := (Keeps.cell hSw hbl2 (fun h => h)).trans y1'; have q2 := (Keeps.cell hSw hbl2 (fun h => h)).trans y2'; have q3 := (Keeps.cell hSw hbl2 (fun h => h)).trans y3'; have q4 := (Keeps.cell hSw hbl2 (fun h => h)).trans y4'; have p0 := (Keeps.cell hSw hrl (fun h => h)).trans hA0; have p1 := (Keeps.cell hSw hrl (fun h => h)).trans hA1; have p2 := (Keeps.cell hSw hrl (fun h => h)).trans hA2; go_simp; (try with_reducible rfl)
        try simp only [Act.put, List.setIfInBounds_toArray, List.set_cons_zero, List.set_cons_succ]
        refine wpAnyH_take (i := 4) (oi := ⟨some 29, _, _, _, _, _⟩) (v := ?v4) rfl (by kernel_rfl) (by kernel_rfl) (by kernel_rfl) (fun _ _ _ h => h) (Or.inl ⟨by rfl, ?h4⟩) (by assumption) ?r4
        case h4 => intro w hSw; (try dsimp only at hSw); go_simp; (try with_reducible rfl)
        try simp only [Act.put, List.setIfInBounds_toArray, List.set_cons_zero, List.set_cons_succ]
        refine wpAnyH_take (i := 5) (oi := ⟨some 30, _, _, _, _, _⟩) (v := ?v5) rfl (by kernel_rfl) (by kernel_rfl) (by kernel_rfl) (fun _ _ _ h => h) (Or.inl ⟨by rfl, ?h5⟩) (by assumption) ?r5
        case h5 => intro w hSw; (try dsimp only at hSw); have q0 := (Keeps.cell hSw hbl2 (fun h => h)).trans y0'; have q1 := (Keeps.cell hSw hbl2 (fun h => h)).trans y1'; have q2 := (Keeps.cell hSw hbl2 (fun h => h)).trans y2'; have q3 := (Keeps.cell hSw hbl2 (fun h => h)).trans y3'; have q4 := (Keeps.cell hSw hbl2 (fun h => h)).trans y4'; have p0 := (Keeps.cell hSw hrl (fun h => h)).trans hA0; have p1 := (Keeps.cell hSw hrl (fun h => h)).trans hA1; have p2 := (Keeps.cell hSw hrl (fun h => h)).trans hA2; go_simp; (try with_reducible rfl)
        try simp only [Act.put, List.setIfInBounds_toArray, List.set_cons_zero, List.set_cons_succ]
        refine wpAnyH_take (i := 8) (oi := ⟨some 33, _, _, _, _, _⟩) (v := ?v8) rfl (by kernel_rfl) (by kernel_rfl) (by kernel_rfl) (fun _ _ _ h => h) (Or.inl ⟨by rfl, ?h8⟩) (by assumption) ?r8
        case h8 => intro w hSw; (try dsimp only at hSw); have q0 := (Keeps.cell hSw hbl2 (fun h => h)).trans y0'; have q1 := (Keeps.cell hSw hbl2 (fun h => h)).trans y1'; have q2 := (Keeps.cell hSw hbl2 (fun h => h)).trans y2'; have q3 := (Keeps.cell hSw hbl2 (fun h => h)).trans y3'; have q4 := (Keeps.cell hSw hbl2 (fun h => h)).trans y4'; have p0 := (Keeps.cell hSw hrl (fun h => h)).trans hA0; have p1 := (Keeps.cell hSw hrl (fun h => h)).trans hA1; have p2 := (Keeps.cell hSw hrl (fun h => h)).trans hA2; go_simp; (try with_reducible rfl)
        try simp only [Act.put, List.setIfInBounds_toArray, List.set_cons_zero, List.set_cons_succ]
        refine wpAnyH_take (i := 9) (oi := ⟨some 34, _, _, _, _, _⟩) (v := ?v9) rfl (by kernel_rfl) (by kernel_rfl) (by kernel_rfl) (fun _ _ _ h => h) (Or.inl ⟨by rfl, ?h9⟩) (by assumption) ?r9
        case h9 => intro w hSw; (try dsimp only at hSw); go_simp; (try with_reducible rfl)
        try simp only [Act.put, List.setIfInBounds_toArray, List.set_cons_zero, List.set_cons_succ]
        refine wpAnyH_take (i := 10) (oi := ⟨some 35, _, _, _, _, _⟩) (v := ?v10) rfl (by kernel_rfl) (by kernel_rfl) (by kernel_rfl) (fun _ _ _ h => h) (Or.inl ⟨by rfl, ?h10⟩) (by assumption) ?r10
        case h10 => intro w hSw; (try dsimp only at hSw); have q0 := (Keeps.cell hSw hbl2 (fun h => h)).trans y0'; have q1 := (Keeps.cell hSw hbl2 (fun h => h)).trans y1'; have q2 := (Keeps.cell hSw hbl2 (fun h => h)).trans y2'; have q3 := (Keeps.cell hSw hbl2 (fun h => h)).trans y3'; have q4 := (Keeps.cell hSw hbl2 (fun h => h)).trans y4'; have p0 := (Keeps.cell hSw hrl (fun h => h)).trans hA0; have p1 := (Keeps.cell hSw hrl (fun h => h)).trans hA1; have p2 := (Keeps.cell hSw hrl (fun h => h)).trans hA2; go_simp; (try with_reducible rfl)
        try simp only [Act.put, List.setIfInBounds_toArray, List.set_cons_zero, List.set_cons_succ]
        refine wpAnyH_ready (rs := [6]) (by kernel_rfl) (by simp) ?_
        refine AllReadyH.cons (o := ⟨some 31, _, _, _, _, _⟩) rfl (fun K hK => ?_) AllReadyH.nil
        go_simp; (go_at_call 41; refine (HLn.out _).mono ?_; rintro z w6 ⟨rfl, hs6⟩)
        refine hK.out _ _ (by (try dsimp only); exact hHeld.trans hs6) (fun hHeld => ?_)
        clear hK K
        try simp only [Act.put, List.setIfInBounds_toArray, List.set_cons_zero, List.set_cons_succ]
        refine wpAnyH_take (i := 7) (oi := ⟨some 32, _, _, _, _, _⟩) (v := ?v7) rfl (by kernel_rfl) (by kernel_rfl) (by kernel_rfl) (fun _ _ _ h => h) (Or.inl ⟨by rfl, ?h7⟩) (by assumption) ?r7
        case h7 => intro w hSw; (try dsimp only at hSw); go_simp; (try with_reducible rfl)
        try simp only [Act.put, List.setIfInBounds_toArray, List.set_cons_zero, List.set_cons_succ]
        refine wpAnyH_ready (rs := [11]) (by kernel_rfl) (by simp) ?_
        refine AllReadyH.cons (o := ⟨some 36, _, _, _, _, _⟩) rfl (fun K hK => ?_) AllReadyH.nil
        go_simp; (go_at_call 42; refine (HDs.out _).mono ?_; rintro z w7 ⟨rfl, hs7⟩)
        refine hK.out _ _ (by (try dsimp only); exact hHeld.trans hs7) (fun hHeld => ?_)
        clear hK K
        try simp only [Act.put, List.setIfInBounds_toArray, List.set_cons_zero, List.set_cons_succ]
        refine wpAnyH_take (i := 12) (oi := ⟨some 37, _, _, _, _, _⟩) (v := ?v12) rfl (by kernel_rfl) (by kernel_rfl) (by kernel_rfl) (fun _ _ _ h => h) (Or.inl ⟨by rfl, ?h12⟩) (by assumption) ?r12
        case h12 => intro w hSw; (try dsimp only at hSw); go_simp; (try with_reducible rfl)
        try simp only [Act.put, List.setIfInBounds_toArray, List.set_cons_zero, List.set_cons_succ]
        refine wpAnyH_take (i := 13) (oi := ⟨some 38, _, _, _, _, _⟩) (v := ?v13) rfl (by kernel_rfl) (by kernel_rfl) (by kernel_rfl) (fun _ _ _ h => h) (Or.inl ⟨by rfl, ?h13⟩) (by assumption) ?r13
        case h13 => intro w hSw; (try dsimp only at hSw); go_simp; (try with_reducible rfl)
        try simp only [Act.put, List.setIfInBounds_toArray, List.set_cons_zero, List.set_cons_succ]
        refine wpAnyH_take (i := 14) (oi := ⟨some 6, _, _, _, _, _⟩) (v := ?v14) rfl (by kernel_rfl) (by kernel_rfl) (by kernel_rfl) (fun _ _ _ h => h) (Or.inl ⟨by rfl, ?h14⟩) (by assumption) ?r14
        case h14 => intro w hSw; (try dsimp only at hSw); go_simp; (try with_reducible rfl)
        try simp only [Act.put, List.setIfInBounds_toArray, List.set_cons_zero, List.set_cons_succ]
        refine wpAnyH_done (by kernel_rfl) ?_ _
        have hbF := hbB.keeps hHeld (fun h => h)
        have hPF := hPB.keeps hHeld (fun _ _ h => h)
        have hsF := hsB.trans hHeld
        clear hHeld
        go_wp2_with fail
        exact ⟨⟨k + 1, by rw [HST.out, HPE.out, ← HEE.out], by go_num, hkl, hbF, hPF, hsF⟩, by simp [intOf]; omega⟩
    · obtain rfl : k = l.length := by omega
      have g0 : decide ((l.length : Int) < (l.length : Int)) = false := by simp
      rw [List.take_length]
      go_wp2_with fail
      go_ret2
      exact ⟨rfl, hsm⟩
end Go.Proofs.YtalopgbkjgjppaaGreatDoor
