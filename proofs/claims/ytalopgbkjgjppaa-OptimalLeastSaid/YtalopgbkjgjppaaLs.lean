/- The document's Least. -/
import Derived.Test.YtalopgbkjgjppaaPn
namespace Go.Proofs.Ytalopgbkjgjppaa
open Go.RowKit Go.Cas

/-- A match that there is. -/
def Val (s : List UInt8) (W : Int) (i d n : Nat) : Prop := 1 ≤ d ∧ d ≤ i ∧ (d : Int) ≤ W ∧ 2 ≤ n ∧ n ≤ aliN s (i - d) i

/-- The best that is known of a place: by all matches ahead of (d0, n0). -/
structure BestOf (t : Tab) (s : List UInt8) (W : Int) (A : Rows2) (i d0 n0 : Nat) (b : Int) : Prop where
  lit : b ≤ t.lit + A (false, i + 1)
  all : ∀ d n, Val s W i d n → (d < d0 ∨ d = d0 ∧ n < n0) → b ≤ t.edge n d + A (false, i + n)
  got : b = t.lit + A (false, i + 1) ∨ ∃ d n, Val s W i d n ∧ b = t.edge n d + A (false, i + n)

/-- The least prices from the place k on. -/
structure LeastFrom (t : Tab) (s : List UInt8) (W : Int) (A : Rows2) (k : Nat) : Prop where
  fin : A (false, s.length) = 0
  best : ∀ j, k ≤ j → j < s.length → BestOf t s W A j (j + 1) 0 (A (false, j))
  low : ∀ j, k ≤ j → j ≤ s.length → 0 ≤ A (false, j)
  high : ∀ j, k ≤ j → j ≤ s.length → A (false, j) ≤ (s.length - j) * 10000

theorem val_in {s : List UInt8} {W : Int} {i d n : Nat} (h : Val s W i d n) : i + n ≤ s.length ∧ n ≤ 273 ∨ s.length < i := by
  have := aliN_le s (i - d) i
  have := h.2.2.2.2
  have := h.2.2.2.1
  omega

theorem BestOf.put {t : Tab} {s : List UInt8} {W : Int} {A : Rows2} {i d0 n0 : Nat} {b : Int} (h : BestOf t s W A i d0 n0 b) (k : Nat) (v : Int) (hk : k ≤ i) : BestOf t s W (A.put (false, k) v) i d0 n0 b := by
  have e : ∀ n, 1 ≤ n → (A.put (false, k) v) (false, i + n) = A (false, i + n) := fun n hn => put_other _ _ (fun e => by have := (Prod.mk.inj e).2; omega)
  refine ⟨by rw [e 1 (Nat.le_refl _)]; exact h.lit, fun d n hv hd => by rw [e n (by have := hv.2.2.2.1; omega)]; exact h.all d n hv hd, ?_⟩
  rcases h.got with g | ⟨d, n, hv, g⟩
  · exact .inl (by rw [e 1 (Nat.le_refl _)]; exact g)
  · exact .inr ⟨d, n, hv, by rw [e n (by have := hv.2.2.2.1; omega)]; exact g⟩

theorem LeastFrom.step {t : Tab} {s : List UInt8} {W : Int} {A : Rows2} {i : Nat} {b : Int} (ht : t.good) (h : LeastFrom t s W A (i + 1)) (hi : i < s.length) (hb : BestOf t s W A i (i + 1) 0 b) : LeastFrom t s W (A.put (false, i) b) i := by
  have e : ∀ j, i + 1 ≤ j → (A.put (false, i) b) (false, j) = A (false, j) := fun j hj => put_other _ _ (fun e => by have := (Prod.mk.inj e).2; omega)
  have hl := ht.1
  unfold okP at hl
  refine ⟨by rw [e _ (by omega)]; exact h.fin, fun j hj hjl => ?_, fun j hj hjl => ?_, fun j hj hjl => ?_⟩
  · by_cases hji : j = i
    · subst hji
      rw [put_same]
      exact hb.put _ _ (Nat.le_refl _)
    · rw [e j (by omega)]
      exact (h.best j (by omega) hjl).put _ _ (by omega)
  · by_cases hji : j = i
    · subst hji
      rw [put_same]
      rcases hb.got with g | ⟨d, n, hv, g⟩
      · have := h.low (j + 1) (Nat.le_refl _) (by omega); omega
      · have h1 := t.edge_ok ht n d
        have h2 := hv.2.2.2.1
        have h3 := val_in hv
        have := h.low (j + n) (by omega) (by omega)
        omega
    · rw [e j (by omega)]; exact h.low j (by omega) hjl
  · by_cases hji : j = i
    · subst hji
      rw [put_same]
      have := h.high (j + 1) (Nat.le_refl _) (by omega)
      have := hb.lit
      push_cast at *
      omega
    · rw [e j (by omega)]; exact h.high j (by omega) hjl

/-- Least's state. -/
structure LeS (w wx : World) (bt g : Nat) (t : Tab) (N : Nat) (A : Rows2) : Prop where
  tb : Blk wx bt #[i6 t.lit, i6 t.mat, i6 t.near, i6 t.far, i6 t.bit] 65
  ro : Blk wx g (rowC A false N) 3
  ne : bt ≠ g
  ge : w.heap.size ≤ bt ∧ w.heap.size ≤ g
  sm : Same w wx

theorem LeS.same {w wx w' : World} {bt g : Nat} {t : Tab} {N : Nat} {A : Rows2} (h : LeS w wx bt g t N A) (k : Same wx w') : LeS w w' bt g t N A :=
  ⟨h.tb.keeps k (fun h => h), h.ro.keeps k (fun h => h), h.ne, h.ge, h.sm.trans k⟩
theorem LeS.put {w wx : World} {bt g : Nat} {t : Tab} {N : Nat} {A : Rows2} (h : LeS w wx bt g t N A) (j : Nat) (v : Int) : LeS w (wx.setCell ⟨g, j, none⟩ (i6 v)) bt g t N (A.put (false, j) v) :=
  ⟨h.tb.setOther (p := ⟨g, j, none⟩) h.ne _, by rw [← rowC_put]; exact h.ro.set j (i6 v), h.ne, h.ge, Keeps.setCell (p := ⟨g, j, none⟩) h.sm (fun hx => absurd hx (by show ¬ g < w.heap.size; have := h.ge.2; omega)) _⟩
theorem LeS.at {w wx : World} {bt g : Nat} {t : Tab} {N : Nat} {A : Rows2} (h : LeS w wx bt g t N A) (j : Nat) (hj : j < N) : wx.cell? ⟨g, j, none⟩ = some (i6 (A (false, j))) := (h.ro.cell j).trans (rowC_get A false N j hj)

def LeastLeft (w w' : World) (z : Ending) (t : Tab) (s : List UInt8) (W : Int) : Prop :=
  ∃ g A, z = .returned (.slice (some ⟨g, 0, none⟩) (s.length + 1) (s.length + 1)) ∧ w'.cell? ⟨g, 0, none⟩ = some (i6 ((A : Rows2) (false, 0))) ∧ Same w w' ∧ LeastFrom t s W A 0

set_option maxHeartbeats 8000000 in
set_option maxRecDepth 100000 in
theorem least_any (s : List UInt8) (W : Int) (t : Tab) (w : World) (ht : t.good) (hs : s.length ≤ 1000000) :
    Calls Try.prog 32 #[t.val, .string ⟨s.toArray⟩, i6 W] w fun z w' => LeastLeft w w' z t s W := by
  obtain ⟨N1, hN1⟩ : ∃ N1 : Nat, N1 = s.length + 1 := ⟨_, rfl⟩
  have hmk := fun w0 => run_make_row' (P := Try.prog) 63 3 (.int .i64 0) 8 Try.underlying63 Try.infoI rfl .i64 .i64 N1 (by omega) (by omega) w0
  have e1 : (s.length : Int) + 1 = (N1 : Int) := by omega
  have e2 : IntKind.i64.wrap (N1 : Int) = (N1 : Int) := IntWalk.i64_in _ (by omega)
  have e3 : IntKind.i64.wrap ((s.length : Int) - 1) = (s.length : Int) - 1 := IntWalk.i64_in _ (by omega)
  have HN1 := hid hN1
  unfold Tab.val
  unfold LeastLeft
  clear hN1
  go_enter Try.func32, Try.ntmps32
  go_wp2_with fail
  have hLS : LeS w ((w.alloc (.cells #[i6 t.lit, i6 t.mat, i6 t.near, i6 t.far, i6 t.bit] 65)).alloc (.cells (madeCells #[.int .i64 0] N1) 3)) w.heap.size (w.heap.size + 1) t N1 (fun _ => 0) := by
    have z1 : (w.alloc (.cells #[i6 t.lit, i6 t.mat, i6 t.near, i6 t.far, i6 t.bit] 65)).heap.size = w.heap.size + 1 := by simp
    refine ⟨(Blk.new _ _ _).alloc _, ?_, by omega, by omega, ((Keeps.refl _ _).alloc _).alloc _⟩
    rw [made_rows N1 false]
    exact Blk.new_at z1.symm
  have hLF : LeastFrom t s W (fun _ => 0) s.length := ⟨rfl, fun j h1 h2 => by omega, fun _ _ _ => Int.le_refl _, fun j h1 h2 => by show (0 : Int) ≤ _; omega⟩
  generalize w.heap.size = bt at hLS ⊢
  generalize bt + 1 = g at hLS ⊢
  clear hmk
  go_loopw [8] (fun s8 wx => ∃ (k : Nat) (A : Rows2), s8 = i6 ((k : Int) - 1) ∧ k ≤ s.length ∧ LeS w wx bt g t N1 A ∧ LeastFrom t s W A k) (fun s8 _ => (intOf s8 + 1).toNat)
  case atStart => exact ⟨s.length, _, rfl, Nat.le_refl _, hLS, hLF⟩
  case round =>
    clear hLS hLF
    obtain ⟨k, A, rfl, hks, hLS, hLF⟩ := hrel
    by_cases hk0 : k = 0
    · subst hk0
      have d1 : decide ((0 : Int) ≤ ((0 : Nat) : Int) - 1) = false := by decide
      have d2 : decide (((0 : Nat) : Int) - 1 ≥ (0 : Int)) = false := by decide
      have h0 := hLS.at 0 (by rw [HN1.out]; omega)
      have HLF := hid hLF
      have hsm := hLS.sm
      clear hLF hLS
      go_wp2_with fail
      go_ret
      exact ⟨g, A, by rw [HN1.out]; rfl, h0, hsm, HLF.out⟩
    · obtain ⟨i, rfl⟩ : ∃ i, k = i + 1 := ⟨k - 1, by omega⟩
      have ek : ((i + 1 : Nat) : Int) - 1 = (i : Int) := by omega
      rw [ek]
      have d1 : decide ((0 : Int) ≤ (i : Int)) = true := by simp
      have d2 : decide ((i : Int) ≥ (0 : Int)) = true := by simp
      have hil : i < s.length := by omega
      have c1 := hLS.at (i + 1) (by rw [HN1.out]; omega)
      have y0 := hLS.tb.cell 0
      simp only [List.getElem?_toArray, List.getElem?_cons_zero] at y0
      have hl := ht.1
      unfold okP at hl
      have hlo := hLF.low (i + 1) (Nat.le_refl _) (by omega)
      have hhi := hLF.high (i + 1) (Nat.le_refl _) (by omega)
      obtain ⟨V1, hV1⟩ : ∃ V1, A (false, i + 1) = V1 := ⟨_, rfl⟩
      rw [hV1] at c1 hlo hhi
      have hwb : IntKind.i64.wrap (t.lit + V1) = t.lit + V1 := IntWalk.i64_in _ (by push_cast at hhi; omega)
      have hb0 : BestOf t s W A i 1 0 (t.lit + V1) := ⟨by rw [hV1]; exact Int.le_refl _, fun d n hv hd => by have := hv.1; omega, .inl (by rw [hV1])⟩
      obtain ⟨m, hm⟩ : ∃ m : Nat, m = i + 1 := ⟨_, rfl⟩
      have k1 : (i : Int) + 1 = (m : Int) := by omega
      have k2 : m < N1 := by rw [HN1.out]; omega
      have kw : IntKind.i64.wrap (m : Int) = (m : Int) := IntWalk.i64_in _ (by omega)
      rw [← hm] at c1
      have HLF := hid hLF
      have HB0 := hid hb0
      have HIL := hid hil
      clear hLF hb0 hm hV1 d1 hlo hhi hks hk0
      go_upto_region 5 with fail
      go_quiet (fail)
      go_wp2_with fail
      have hLS1 : LeS w (wr.drewN nq) bt g t N1 A := hLS.same ((Keeps.refl _ _).drewN _)
      clear hLS c1 y0
      go_loopw [9, 10] (fun s9 s10 wx => ∃ (b : Int) (d : Nat), s9 = i6 b ∧ s10 = i6 d ∧ 1 ≤ d ∧ d ≤ i + 1 ∧ LeS w wx bt g t N1 A ∧ BestOf t s W A i d 0 b) (fun _ s10 _ => i + 1 - (intOf s10).toNat)
      case atStart => exact ⟨_, 1, rfl, rfl, Nat.le_refl _, by omega, hLS1, HB0.out⟩
      case round =>
        clear hLS1 HB0
        obtain ⟨b, d, rfl, rfl, hd1, hdi, hLS2, hB2⟩ := hrel
        by_cases hdi' : d ≤ i ∧ (d : Int) ≤ W
        · obtain ⟨hd2, hd3⟩ := hdi'
          have g1 : decide ((d : Int) ≤ (i : Int)) = true := by simpa using hd2
          have g2 : decide ((d : Int) ≤ W) = true := by simpa using hd3
          have g3 : decide ((d : Int) ≤ 1048576) = true := by have := HIL.out; simp; omega
          have HM := hid (fun w0 => matches_any s i d w0 hd1 hd2 (by have := HIL.out; omega) hs)
          have hal := aliN_le s (i - d) i
          obtain ⟨M, hM⟩ : ∃ M, aliN s (i - d) i = M := ⟨_, rfl⟩
          rw [hM] at HM hal
          have HM2 := hid hM
          have hB3 : BestOf t s W A i d 2 b := ⟨hB2.lit, fun d' n hv h => hB2.all d' n hv (by have := hv.2.2.2.1; omega), hB2.got⟩
          clear hB2 hM
          go_wp2_with (go_at_call 55; refine (HM.out _).mono ?_; rintro z w4 ⟨rfl, hs4⟩; have hLS4 := hLS2.same hs4)
          clear hLS2 HM hs4
          have HB3 := hid hB3
          clear hB3
          go_loopw [9, 12] (fun s9 s12 wx => ∃ (b : Int) (n : Nat), s9 = i6 b ∧ s12 = i6 n ∧ 2 ≤ n ∧ n ≤ 1000 ∧ LeS w wx bt g t N1 A ∧ BestOf t s W A i d n b) (fun _ s12 _ => M + 1 - (intOf s12).toNat)
          case atStart => exact ⟨b, 2, rfl, rfl, Nat.le_refl _, by omega, hLS4, HB3.out⟩
          case round =>
            clear hLS4 HB3
            obtain ⟨b, n, rfl, rfl, hn2, hn3, hLS5, hB5⟩ := hrel
            by_cases hnM : n ≤ M
            · have g1 : decide ((n : Int) ≤ (M : Int)) = true := by simpa using hnM
              have hv : Val s W i d n := ⟨hd1, hd2, hd3, hn2, by rw [HM2.out]; exact hnM⟩
              have hHIL := HIL.out
              have hlo := HLF.out.low (i + n) (by omega) (by omega)
              have hhi := HLF.out.high (i + n) (by omega) (by omega)
              obtain ⟨k, hk⟩ : ∃ k : Nat, k = i + n := ⟨_, rfl⟩
              have k1 : (i : Int) + (n : Int) = (k : Int) := by omega
              have k2 : k < N1 := by rw [HN1.out]; omega
              have kw : IntKind.i64.wrap (k : Int) = (k : Int) := IntWalk.i64_in _ (by omega)
              have cK := hLS5.at k k2
              have hed := t.edge_ok ht n d
              have hBl := hB5.lit
              have hBa := hB5.all
              have hBg := hB5.got
              rw [← hk] at hlo hhi
              have hA : A (false, i + n) = A (false, k) := by rw [hk]
              obtain ⟨V, hV⟩ : ∃ V, A (false, k) = V := ⟨_, rfl⟩
              rw [hV] at cK hlo hhi hA
              have hwc : IntKind.i64.wrap (t.edge n d + V) = t.edge n d + V := IntWalk.i64_in _ (by omega)
              have HB5 := hid (And.intro hBl (And.intro hBa hBg))
              have HA := hid hA
              have HV := hid hv
              have HR := hid (fun w0 => rmatch_any t ht n d w0 hd1 (by omega))
              unfold Tab.val at HR
              have y0 := hLS5.tb.cell 0
              have y1 := hLS5.tb.cell 1
              have y2 := hLS5.tb.cell 2
              have y3 := hLS5.tb.cell 3
              have y4 := hLS5.tb.cell 4
              simp only [List.getElem?_toArray, List.getElem?_cons_succ, List.getElem?_cons_zero] at y0 y1 y2 y3 y4
              have hbl := hLS5.tb.lt
              have hgl := hLS5.ro.lt
              clear hk hA hV hBl hBa hBg hB5 hv hhi hHIL hlo
              go_upto_region 13 with fail
              refine wp_region_held_drew (S := (fun V => Same wr V)) (by kernel_rfl) (by (try dsimp only); exact (Keeps.refl _ _).drew) (fun hHeld => ?_)
              refine wpAnyH_take (i := 0) (oi := ⟨some 56, _, _, _, _, _⟩) (v := ?v0e) rfl (by kernel_rfl) (by kernel_rfl) (by kernel_rfl) (fun _ _ _ h => h) (Or.inl ⟨by rfl, ?h0e⟩) (by assumption) ?r0e
              case h0e => intro w hSw; (try dsimp only at hSw); have q0 := (Keeps.cell hSw hbl (fun h => h)).trans y0; have q1 := (Keeps.cell hSw hbl (fun h => h)).trans y1; have q2 := (Keeps.cell hSw hbl (fun h => h)).trans y2; have q3 := (Keeps.cell hSw hbl (fun h => h)).trans y3; have q4 := (Keeps.cell hSw hbl (fun h => h)).trans y4; go_simp; (try with_reducible rfl)
              try simp only [Act.put, List.setIfInBounds_toArray, List.set_cons_zero, List.set_cons_succ]
              refine wpAnyH_take (i := 1) (oi := ⟨some 57, _, _, _, _, _⟩) (v := ?v1e) rfl (by kernel_rfl) (by kernel_rfl) (by kernel_rfl) (fun _ _ _ h => h) (Or.inl ⟨by rfl, ?h1e⟩) (by assumption) ?r1e
              case h1e => intro w hSw; (try dsimp only at hSw); go_simp; (try with_reducible rfl)
              try simp only [Act.put, List.setIfInBounds_toArray, List.set_cons_zero, List.set_cons_succ]
              refine wpAnyH_take (i := 2) (oi := ⟨some 58, _, _, _, _, _⟩) (v := ?v2e) rfl (by kernel_rfl) (by kernel_rfl) (by kernel_rfl) (fun _ _ _ h => h) (Or.inl ⟨by rfl, ?h2e⟩) (by assumption) ?r2e
              case h2e => intro w hSw; (try dsimp only at hSw); go_simp; (try with_reducible rfl)
              try simp only [Act.put, List.setIfInBounds_toArray, List.set_cons_zero, List.set_cons_succ]
              refine wpAnyH_take (i := 4) (oi := ⟨some 60, _, _, _, _, _⟩) (v := ?v4e) rfl (by kernel_rfl) (by kernel_rfl) (by kernel_rfl) (fun _ _ _ h => h) (Or.inl ⟨by rfl, ?h4e⟩) (by assumption) ?r4e
              case h4e => intro w hSw; (try dsimp only at hSw); go_simp; (try with_reducible rfl)
              try simp only [Act.put, List.setIfInBounds_toArray, List.set_cons_zero, List.set_cons_succ]
              refine wpAnyH_take (i := 5) (oi := ⟨some 61, _, _, _, _, _⟩) (v := ?v5e) rfl (by kernel_rfl) (by kernel_rfl) (by kernel_rfl) (fun _ _ _ h => h) (Or.inl ⟨by rfl, ?h5e⟩) (by assumption) ?r5e
              case h5e => intro w hSw; (try dsimp only at hSw); go_simp; (try with_reducible rfl)
              try simp only [Act.put, List.setIfInBounds_toArray, List.set_cons_zero, List.set_cons_succ]
              refine wpAnyH_take (i := 6) (oi := ⟨some 62, _, _, _, _, _⟩) (v := ?v6e) rfl (by kernel_rfl) (by kernel_rfl) (by kernel_rfl) (fun _ _ _ h => h) (Or.inl ⟨by rfl, ?h6e⟩) (by assumption) ?r6e
              case h6e => intro w hSw; (try dsimp only at hSw); go_simp; (try with_reducible rfl)
              try simp only [Act.put, List.setIfInBounds_toArray, List.set_cons_zero, List.set_cons_succ]
              refine wpAnyH_take (i := 7) (oi := ⟨some 63, _, _, _, _, _⟩) (v := ?v7e) rfl (by kernel_rfl) (by kernel_rfl) (by kernel_rfl) (fun _ _ _ h => h) (Or.inl ⟨by rfl, ?h7e⟩) (by assumption) ?r7e
              case h7e => intro w hSw; (try dsimp only at hSw); go_simp; (try with_reducible rfl)
              try simp only [Act.put, List.setIfInBounds_toArray, List.set_cons_zero, List.set_cons_succ]
              refine wpAnyH_take (i := 8) (oi := ⟨some 64, _, _, _, _, _⟩) (v := ?v8e) rfl (by kernel_rfl) (by kernel_rfl) (by kernel_rfl) (fun _ _ _ h => h) (Or.inl ⟨by rfl, ?h8e⟩) (by assumption) ?r8e
              case h8e => intro w hSw; (try dsimp only at hSw); go_simp; (try with_reducible rfl)
              try simp only [Act.put, List.setIfInBounds_toArray, List.set_cons_zero, List.set_cons_succ]
              refine wpAnyH_take (i := 9) (oi := ⟨some 65, _, _, _, _, _⟩) (v := ?v9e) rfl (by kernel_rfl) (by kernel_rfl) (by kernel_rfl) (fun _ _ _ h => h) (Or.inl ⟨by rfl, ?h9e⟩) (by assumption) ?r9e
              case h9e => intro w hSw; (try dsimp only at hSw); have q1 := (Keeps.cell hSw hgl (fun h => h)).trans cK; go_simp; (try with_reducible rfl)
              try simp only [Act.put, List.setIfInBounds_toArray, List.set_cons_zero, List.set_cons_succ]
              refine wpAnyH_ready (rs := [3]) (by kernel_rfl) (by simp) ?_
              refine AllReadyH.cons (o := ⟨some 59, _, _, _, _, _⟩) rfl (fun K hK => ?_) AllReadyH.nil
              go_simp; (go_at_call 56; refine (HR.out _).mono ?_; rintro z w6 ⟨rfl, hs6⟩)
              refine hK.out _ _ (by (try dsimp only); exact hHeld.trans hs6) (fun hHeld => ?_)
              clear hK K
              try simp only [Act.put, List.setIfInBounds_toArray, List.set_cons_zero, List.set_cons_succ]
              refine wpAnyH_take (i := 10) (oi := ⟨some 66, _, _, _, _, _⟩) (v := ?v10e) rfl (by kernel_rfl) (by kernel_rfl) (by kernel_rfl) (fun _ _ _ h => h) (Or.inl ⟨by rfl, ?h10e⟩) (by assumption) ?r10e
              case h10e => intro w hSw; (try dsimp only at hSw); go_simp; (try with_reducible rfl)
              try simp only [Act.put, List.setIfInBounds_toArray, List.set_cons_zero, List.set_cons_succ]
              refine wpAnyH_take (i := 11) (oi := ⟨some 13, _, _, _, _, _⟩) (v := ?v11e) rfl (by kernel_rfl) (by kernel_rfl) (by kernel_rfl) (fun _ _ _ h => h) (Or.inl ⟨by rfl, ?h11e⟩) (by assumption) ?r11e
              case h11e => intro w hSw; (try dsimp only at hSw); go_simp; (try with_reducible rfl)
              try simp only [Act.put, List.setIfInBounds_toArray, List.set_cons_zero, List.set_cons_succ]
              refine wpAnyH_done (by kernel_rfl) ?_ _
              have hLS6 : LeS w w6 bt g t N1 A := hLS5.same hHeld
              clear hLS5 hHeld cK y0 y1 y2 y3 y4 HR hbl hgl
              by_cases hcb : t.edge n d + V < b
              · have g2 : decide (t.edge n d + V < b) = true := by simpa using hcb
                go_wp2_with fail
                refine ⟨⟨t.edge n d + V, n + 1, rfl, by go_num, by omega, by omega, hLS6, ⟨?_, ?_, ?_⟩⟩, by simp [intOf]; omega⟩
                · have := HB5.out.1; omega
                · intro d' n' hv' hlt
                  by_cases hq : d' < d ∨ d' = d ∧ n' < n
                  · have := HB5.out.2.1 d' n' hv' hq; omega
                  · obtain ⟨rfl, rfl⟩ : d' = d ∧ n' = n := by omega
                    rw [HA.out]; exact Int.le_refl _
                · exact .inr ⟨d, n, HV.out, by rw [HA.out]⟩
              · have g2 : decide (t.edge n d + V < b) = false := by simpa using hcb
                go_wp2_with fail
                refine ⟨⟨b, n + 1, rfl, by go_num, by omega, by omega, hLS6, ⟨HB5.out.1, ?_, HB5.out.2.2⟩⟩, by simp [intOf]; omega⟩
                intro d' n' hv' hlt
                by_cases hq : d' < d ∨ d' = d ∧ n' < n
                · exact HB5.out.2.1 d' n' hv' hq
                · obtain ⟨rfl, rfl⟩ : d' = d ∧ n' = n := by omega
                  rw [HA.out]; omega
            · have g1 : decide ((n : Int) ≤ (M : Int)) = false := by simpa using hnM
              have hB6 : BestOf t s W A i (d + 1) 0 b := by
                refine ⟨hB5.lit, fun d' n' hv' hlt => hB5.all d' n' hv' ?_, hB5.got⟩
                have h5 := hv'.2.2.2.2
                by_cases hq : d' = d
                · subst hq
                  rw [HM2.out] at h5
                  omega
                · omega
              have HB6 := hid hB6
              clear hB5 hB6
              go_wp2_with fail
              exact ⟨⟨b, d + 1, rfl, by go_num, by omega, by omega, hLS5, HB6.out⟩, by simp [intOf]; omega⟩
        · have hB3 : BestOf t s W A i (i + 1) 0 b := by
            refine ⟨hB2.lit, fun d' n hv h => hB2.all d' n hv ?_, hB2.got⟩
            have h1 := hv.2.1
            have h2 := hv.2.2.1
            omega
          have HB3 := hid hB3
          have hfl := hLS2.ro.frozen i
          have hcl := hLS2.at i (by rw [HN1.out]; have := HIL.out; omega)
          have hgl := hLS2.ro.lt
          have HL3 := hid (hLS2.put i b)
          clear hB2 hB3 hLS2
          have i1 : i < N1 := by rw [HN1.out]; have := HIL.out; omega
          by_cases h1 : d ≤ i
          · have g1 : decide ((d : Int) ≤ (i : Int)) = true := by simpa using h1
            have g2 : decide ((d : Int) ≤ W) = false := by simp; exact Int.not_le.1 (fun h => hdi' ⟨h1, h⟩)
            clear hdi'
            go_wp2_with fail
            exact ⟨⟨i, A.put (false, i) b, rfl, by have := HIL.out; omega, HL3.out, .step ht HLF.out HIL.out HB3.out⟩, by simp [intOf]⟩
          · have g1 : decide ((d : Int) ≤ (i : Int)) = false := by simp; omega
            clear hdi'
            go_wp2_with fail
            exact ⟨⟨i, A.put (false, i) b, rfl, by have := HIL.out; omega, HL3.out, .step ht HLF.out HIL.out HB3.out⟩, by simp [intOf]⟩
end Go.Proofs.Ytalopgbkjgjppaa
