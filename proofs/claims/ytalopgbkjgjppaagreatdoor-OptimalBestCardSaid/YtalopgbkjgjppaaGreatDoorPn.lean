/- The walk of optimal.Plain. -/
import Derived.Test.YtalopgbkjgjppaaGreatDoorGRv
namespace Go.Proofs.YtalopgbkjgjppaaGreatDoor
open Go.RowKit Go.Cas

theorem mem_edgesGo : ∀ (L : List (Nat × Nat)) (n m d : Nat), (m, d) ∈ edgesGo n L → n ≤ m ∧ ∃ len, (len, d) ∈ L ∧ m ≤ len
  | [], _, _, _, h => by simp [edgesGo] at h
  | (len, d0) :: L, n, m, d, h => by
    unfold edgesGo at h
    rcases List.mem_append.1 h with h | h
    · obtain ⟨h1, h2, rfl⟩ := mem_edgesTo.1 h
      exact ⟨h1, len, List.mem_cons_self .., h2⟩
    · obtain ⟨h1, len2, h2, h3⟩ := mem_edgesGo L _ m d h
      exact ⟨by omega, len2, List.mem_cons_of_mem _ h2, h3⟩

def Lens (O : List Opt) : Prop := ∀ j, 0 ≤ (oat O j).2.l ∧ (oat O j).2.l ≤ 1000000

theorem Lens.upd {O : List Opt} (h : Lens O) (j : Nat) (c : Int) (p : Pk) (hp : 0 ≤ p.l ∧ p.l ≤ 1000000) : Lens (upd O j c p) := by
  intro k
  rw [oat_upd]
  split
  · unfold betterO
    split
    · exact hp
    · exact h j
  · exact h k

theorem Lens.edges (t : Tab) (i : Nat) (C : Int) : ∀ (E : List (Nat × Nat)) (O : List Opt), (∀ e ∈ E, e.1 ≤ 1000000) → Lens O → Lens (E.foldl (edgeStep t i C) O)
  | [], _, _, h => h
  | e :: E, O, hE, h => by
    rw [List.foldl_cons]
    refine Lens.edges t i C E _ (fun e he => hE e (List.mem_cons_of_mem _ he)) (h.upd _ _ _ ?_)
    have := hE e (List.mem_cons_self ..)
    show 0 ≤ (e.1 : Int) ∧ (e.1 : Int) ≤ 1000000
    omega

theorem PlainTo.lens {t : Tab} {s : List UInt8} {W : Int} {i : Nat} {O : List Opt} (h : PlainTo t s W i O) : Lens O := by
  induction h with
  | zero =>
    intro j
    have : oat (List.replicate (s.length + 1) zeroO) j = zeroO := by
      unfold oat
      rw [List.getElem?_replicate]
      split <;> rfl
    rw [this]
    exact ⟨by decide, by decide⟩
  | @step i O L hp hi hf ih =>
    refine Lens.edges t i _ _ _ (fun e he => ?_) (ih.upd _ _ _ (by show (0 : Int) ≤ 0 ∧ (0 : Int) ≤ 1000000; omega))
    obtain ⟨m, d⟩ := e
    obtain ⟨_, len, h2, h3⟩ := mem_edgesGo L 2 m d he
    have h4 := (finds_mem hf h2).2.2.2.2
    have := (aliN_le s (i - d) i).1
    show m ≤ 1000000
    omega

/-- Plain's state. -/
structure PS (w wx : World) (bt g p g1 g2 : Nat) (t : Tab) (s : List UInt8) (W : Int) (i : Nat) (O : List Opt) : Prop where
  tb : Blk wx bt #[i6 t.lit, i6 t.mat, i6 t.near, i6 t.far, i6 t.bit] 43
  ro : ORow wx g O
  f8 : F8 wx p s W i g1 g2
  n0 : bt ≠ g
  n1 : ∀ b, b = p ∨ b = g1 ∨ b = g2 → bt ≠ b ∧ g ≠ b ∧ w.heap.size ≤ b
  ge : w.heap.size ≤ bt ∧ w.heap.size ≤ g
  sm : Same w wx

section
variable {w wx w' : World} {bt g p g1 g2 : Nat} {t : Tab} {s : List UInt8} {W : Int} {i : Nat} {O O' : List Opt}
theorem PS.same (h : PS w wx bt g p g1 g2 t s W i O) (k : Same wx w') : PS w w' bt g p g1 g2 t s W i O :=
  ⟨h.tb.keeps k (fun h => h), h.ro.keeps k (fun h => h), h.f8.keeps k (fun _ _ h => h), h.n0, h.n1, h.ge, h.sm.trans k⟩
theorem PS.row (h : PS w wx bt g p g1 g2 t s W i O) (hr : ORow w' g O') (k : Keeps (fun b => b = g) wx w') : PS w w' bt g p g1 g2 t s W i O' :=
  ⟨h.tb.keeps k h.n0, hr, h.f8.keeps k (fun b hb e => (h.n1 b hb).2.1 e.symm), h.n0, h.n1, h.ge, h.sm.trans' k fun b hb e => by have := h.ge.2; omega⟩
theorem PS.next (h : PS w wx bt g p g1 g2 t s W i O) (hf : F8 w' p s W (i + 1) g1 g2) (k : Keeps (fun b => b = p ∨ b = g1 ∨ b = g2) wx w') : PS w w' bt g p g1 g2 t s W (i + 1) O :=
  ⟨h.tb.keeps k (fun e => (h.n1 _ e).1 rfl), h.ro.keeps k (fun e => (h.n1 _ e).2.1 rfl), hf, h.n0, h.n1, h.ge, h.sm.trans' k fun b hb e => by have := (h.n1 b e).2.2; omega⟩
end

theorem pick_length (i M : Nat) : ∀ (l : List (Nat × Nat)) (best : Nat), (∀ p ∈ l, p.2 ≤ M) → best ≤ M → (pick i best l).length + best ≤ M
  | [], best, _, h => by simpa [pick] using h
  | (k, n) :: l, best, hl, h => by
    unfold pick
    have h1 := hl (k, n) (List.mem_cons_self ..)
    dsimp only at h1
    have h2 := fun p hp => hl p (List.mem_cons_of_mem _ hp)
    split
    · have := pick_length i M l n h2 h1
      rw [List.length_cons]
      omega
    · exact pick_length i M l best h2 h

theorem finds_length {s : List UInt8} {W : Int} {i : Nat} {L : List (Nat × Nat)} (h : Finds s W i L) : L.length ≤ 273 := by
  obtain ⟨t, ht, rfl, _⟩ := h
  have h1 := (met_is s i W t i ht.1 ht.2.1 ht.2.1).1
  have := pick_length i 273 (t.met s i W) 1 (fun p hp => by rw [(h1 p hp).2.2.2]; exact (aliN_le s _ i).1) (by omega)
  omega

theorem Tryz.infoO : (Tryz.prog.info? 93).map (fun i => (i.zero, i.size, i.bytes)) = some (some (.agg #[.int .i64 0, .int .i64 0, .int .i64 0, .int .i64 0, .int .u8 0]), 5, 40) := by kernel_rfl

theorem run_make_opts (n : Nat) (hn : n ≤ 1000001) (w : World) :
    (Instr.makeSlice 89 (.int .i64 (n : Int)) (.int .i64 (n : Int))).run Tryz.prog w = .ok (.slice (some ⟨w.heap.size, 0, none⟩) n n) (w.alloc (.cells (cellsO (List.replicate n zeroO)).toArray 93)) := by
  obtain ⟨i, hi, hz⟩ := Option.map_eq_some_iff.1 Tryz.infoO
  simp only [Prod.mk.injEq] at hz
  obtain ⟨z1, z2, z3⟩ := hz
  have := run_make (P := Tryz.prog) w 89 93 i (.agg #[.int .i64 0, .int .i64 0, .int .i64 0, .int .i64 0, .int .u8 0]) Tryz.underlying89 hi z1 .i64 .i64 n n (by omega) (by omega) (by rw [z3]; omega) (by omega)
  rw [this, z2, Int.toNat_natCast, show (Value.agg #[.int .i64 0, .int .i64 0, .int .i64 0, .int .i64 0, .int .u8 0]).cells = #[.int .i64 0, .int .i64 0, .int .i64 0, .int .i64 0, .int .u8 0] from rfl, made_opts]

set_option maxHeartbeats 8000000 in
set_option maxRecDepth 100000 in
theorem plain_any (s : List UInt8) (W : Int) (t : Tab) (w : World) (ht : t.good) (hs : s.length ≤ 1000000) :
    Calls Tryz.prog 14 #[.string ⟨s.toArray⟩, i6 W, t.val] w fun z w' => ∃ O, PlainTo t s (min W 1048576) s.length O ∧ BackLeft w w' z (obackL O) := by
  obtain ⟨N1, hN1⟩ : ∃ N1 : Nat, N1 = s.length + 1 := ⟨_, rfl⟩
  have hmk := fun w0 => run_make_opts N1 (by omega) w0
  have e1 : (s.length : Int) + 1 = (N1 : Int) := by omega
  have e2 : IntKind.i64.wrap (N1 : Int) = (N1 : Int) := IntWalk.i64_in _ (by omega)
  obtain ⟨Wm, hWm⟩ : ∃ Wm, min W 1048576 = Wm := ⟨_, rfl⟩
  rw [hWm]
  have HNew := hid (fun w0 => bnew_any s Wm w0 hs)
  have HN1 := hid hN1
  unfold Tab.val
  clear hN1
  go_enter Tryz.func14, Tryz.ntmps14
  go_wp2_with (go_at_call 38; refine (HNew.out _).mono ?_; rintro z w3 ⟨p, g1, g2, rfl, hs3, hB3, hp, hg1, hg2⟩)
  have hPS : PS w w3 w.heap.size (w.heap.size + 1) p g1 g2 t s Wm 0 (List.replicate N1 zeroO) := by
    have z1 : (w.alloc (.cells #[i6 t.lit, i6 t.mat, i6 t.near, i6 t.far, i6 t.bit] 43)).heap.size = w.heap.size + 1 := by simp
    have hb1 := Blk.new w #[i6 t.lit, i6 t.mat, i6 t.near, i6 t.far, i6 t.bit] 43
    have hb2 := Blk.new (w.alloc (.cells #[i6 t.lit, i6 t.mat, i6 t.near, i6 t.far, i6 t.bit] 43)) (cellsO (List.replicate N1 zeroO)).toArray 93
    rw [z1] at hb2
    have z2 : ((w.alloc (.cells #[i6 t.lit, i6 t.mat, i6 t.near, i6 t.far, i6 t.bit] 43)).alloc (.cells (cellsO (List.replicate N1 zeroO)).toArray 93)).heap.size = w.heap.size + 2 := by simp
    refine ⟨(hb1.alloc _).keeps hs3 (fun h => h), hb2.keeps hs3 (fun h => h), F8.new hB3, by omega, ?_, by omega, (((Keeps.refl _ _).alloc _).alloc _).trans hs3⟩
    rintro b (rfl | rfl | rfl) <;> omega
  generalize w.heap.size = bt at hPS ⊢
  generalize bt + 1 = g at hPS ⊢
  have hP0 : PlainTo t s Wm 0 (List.replicate N1 zeroO) := by rw [HN1.out]; exact .zero
  clear hmk HNew hB3 hs3 hp hg1 hg2
  go_loopw [24] (fun s24 wx => ∃ (i : Nat) (O : List Opt), s24 = i6 i ∧ i ≤ s.length ∧ PlainTo t s Wm i O ∧ PS w wx bt g p g1 g2 t s Wm i O) (fun s24 _ => s.length - (intOf s24).toNat)
  case atStart => exact ⟨0, _, rfl, Nat.zero_le _, hP0, hPS⟩
  case round =>
    clear hPS hP0
    obtain ⟨i, O, rfl, hi, hPT, hPS⟩ := hrel
    by_cases hlt : i < s.length
    · have d1 : decide ((i : Int) < (s.length : Int)) = true := by simpa using hlt
      have hOl := hPT.length
      have hget : O[i]? = some (oat O i) := by unfold oat; simp [show i < O.length by omega]
      obtain ⟨x0, _, _, _, _⟩ := hPS.ro.at i _ hget
      have hsmall := hPT.small ht i
      obtain ⟨C, hC⟩ : ∃ C, (oat O i).1 = C := ⟨_, rfl⟩
      rw [hC] at x0 hsmall
      have hgl := hPS.ro.lt
      have i1 : i < N1 := by rw [HN1.out]; omega
      have HOL := hid hOl
      have HPT := hid hPT
      have HC := hid hC
      clear hOl hPT hget hC
      have e3 : s[i]? = some s[i] := by simp [hlt]
      have e4 : byte s i = s[i] := by unfold byte; rw [e3]; rfl
      obtain ⟨m, hm⟩ : ∃ m : Nat, m = i + 1 := ⟨_, rfl⟩
      have e5 : (i : Int) + 1 = (m : Int) := by omega
      have i2 : m < N1 := by rw [HN1.out]; omega
      have hl := ht.1
      unfold okP at hl
      have hwc : IntKind.i64.wrap (C + t.lit) = C + t.lit := IntWalk.i64_in _ (by omega)
      have hwm : IntKind.i64.wrap (m : Int) = (m : Int) := IntWalk.i64_in _ (by omega)
      have y0 := hPS.tb.cell 0
      have y1 := hPS.tb.cell 1
      simp only [List.getElem?_toArray, List.getElem?_cons_succ, List.getElem?_cons_zero] at y0 y1
      have hbl := hPS.tb.lt
      have hne := hPS.n0
      have hgm : O[m]? = some (oat O m) := by unfold oat; simp [show m < O.length by rw [HOL.out]; omega]
      have HB := hid (fun w0 hO => better_any g m O (oat O m) (C + t.lit) (litPk s[i]) w0 hO hgm)
      unfold Pk.val litPk at HB
      dsimp only at HB
      have HE4 := hid e4
      have HM := hid hm
      clear e4 hgm hm
      go_upto_region 7 with fail
      refine wp_region_held_drew (S := (fun V => Keeps (fun b => b = g) wr V)) (by kernel_rfl) (by (try dsimp only); exact (Keeps.refl _ _).drew) (fun hHeld => ?_)
      refine wpAnyH_take (i := 0) (oi := ⟨some 32, _, _, _, _, _⟩) (v := ?v0l) rfl (by kernel_rfl) (by kernel_rfl) (by kernel_rfl) (fun _ _ _ h => h) (Or.inl ⟨by rfl, ?h0l⟩) (by assumption) ?r0l
      case h0l => intro w hSw; (try dsimp only at hSw); go_simp; (try with_reducible rfl)
      try simp only [Act.put, List.setIfInBounds_toArray, List.set_cons_zero, List.set_cons_succ]
      refine wpAnyH_take (i := 1) (oi := ⟨some 33, _, _, _, _, _⟩) (v := ?v1l) rfl (by kernel_rfl) (by kernel_rfl) (by kernel_rfl) (fun _ _ _ h => h) (Or.inl ⟨by rfl, ?h1l⟩) (by assumption) ?r1l
      case h1l => intro w hSw; (try dsimp only at hSw); go_simp; (try with_reducible rfl)
      try simp only [Act.put, List.setIfInBounds_toArray, List.set_cons_zero, List.set_cons_succ]
      refine wpAnyH_take (i := 2) (oi := ⟨some 34, _, _, _, _, _⟩) (v := ?v2l) rfl (by kernel_rfl) (by kernel_rfl) (by kernel_rfl) (fun _ _ _ h => h) (Or.inl ⟨by rfl, ?h2l⟩) (by assumption) ?r2l
      case h2l => intro w hSw; (try dsimp only at hSw); go_simp; (try with_reducible rfl)
      try simp only [Act.put, List.setIfInBounds_toArray, List.set_cons_zero, List.set_cons_succ]
      refine wpAnyH_take (i := 3) (oi := ⟨some 35, _, _, _, _, _⟩) (v := ?v3l) rfl (by kernel_rfl) (by kernel_rfl) (by kernel_rfl) (fun _ _ _ h => h) (Or.inl ⟨by rfl, ?h3l⟩) (by assumption) ?r3l
      case h3l => intro w hSw; (try dsimp only at hSw); go_simp; (try with_reducible rfl)
      try simp only [Act.put, List.setIfInBounds_toArray, List.set_cons_zero, List.set_cons_succ]
      refine wpAnyH_take (i := 4) (oi := ⟨some 36, _, _, _, _, _⟩) (v := ?v4l) rfl (by kernel_rfl) (by kernel_rfl) (by kernel_rfl) (fun _ _ _ h => h) (Or.inl ⟨by rfl, ?h4l⟩) (by assumption) ?r4l
      case h4l => intro w hSw; (try dsimp only at hSw); go_simp; (try with_reducible rfl)
      try simp only [Act.put, List.setIfInBounds_toArray, List.set_cons_zero, List.set_cons_succ]
      refine wpAnyH_take (i := 5) (oi := ⟨some 37, _, _, _, _, _⟩) (v := ?v5l) rfl (by kernel_rfl) (by kernel_rfl) (by kernel_rfl) (fun _ _ _ h => h) (Or.inl ⟨by rfl, ?h5l⟩) (by assumption) ?r5l
      case h5l => intro w hSw; (try dsimp only at hSw); go_simp; (try with_reducible rfl)
      try simp only [Act.put, List.setIfInBounds_toArray, List.set_cons_zero, List.set_cons_succ]
      refine wpAnyH_take (i := 6) (oi := ⟨some 38, _, _, _, _, _⟩) (v := ?v6l) rfl (by kernel_rfl) (by kernel_rfl) (by kernel_rfl) (fun _ _ _ h => h) (Or.inl ⟨by rfl, ?h6l⟩) (by assumption) ?r6l
      case h6l => intro w hSw; (try dsimp only at hSw); have q0 := (Keeps.cell hSw hbl hne).trans y0; go_simp; (try with_reducible rfl)
      try simp only [Act.put, List.setIfInBounds_toArray, List.set_cons_zero, List.set_cons_succ]
      refine wpAnyH_take (i := 7) (oi := ⟨some 39, _, _, _, _, _⟩) (v := ?v7l) rfl (by kernel_rfl) (by kernel_rfl) (by kernel_rfl) (fun _ _ _ h => h) (Or.inl ⟨by rfl, ?h7l⟩) (by assumption) ?r7l
      case h7l => intro w hSw; (try dsimp only at hSw); go_simp; (try with_reducible rfl)
      try simp only [Act.put, List.setIfInBounds_toArray, List.set_cons_zero, List.set_cons_succ]
      refine wpAnyH_take (i := 8) (oi := ⟨some 40, _, _, _, _, _⟩) (v := ?v8l) rfl (by kernel_rfl) (by kernel_rfl) (by kernel_rfl) (fun _ _ _ h => h) (Or.inl ⟨by rfl, ?h8l⟩) (by assumption) ?r8l
      case h8l => intro w hSw; (try dsimp only at hSw); go_simp; (try with_reducible rfl)
      try simp only [Act.put, List.setIfInBounds_toArray, List.set_cons_zero, List.set_cons_succ]
      refine wpAnyH_take (i := 9) (oi := ⟨some 41, _, _, _, _, _⟩) (v := ?v9l) rfl (by kernel_rfl) (by kernel_rfl) (by kernel_rfl) (fun _ _ _ h => h) (Or.inl ⟨by rfl, ?h9l⟩) (by assumption) ?r9l
      case h9l => intro w hSw; (try dsimp only at hSw); go_simp; (try with_reducible rfl)
      try simp only [Act.put, List.setIfInBounds_toArray, List.set_cons_zero, List.set_cons_succ]
      refine wpAnyH_take (i := 10) (oi := ⟨some 42, _, _, _, _, _⟩) (v := ?v10l) rfl (by kernel_rfl) (by kernel_rfl) (by kernel_rfl) (fun _ _ _ h => h) (Or.inl ⟨by rfl, ?h10l⟩) (by assumption) ?r10l
      case h10l => intro w hSw; (try dsimp only at hSw); go_simp; (try with_reducible rfl)
      try simp only [Act.put, List.setIfInBounds_toArray, List.set_cons_zero, List.set_cons_succ]
      refine wpAnyH_take (i := 11) (oi := ⟨some 43, _, _, _, _, _⟩) (v := ?v11l) rfl (by kernel_rfl) (by kernel_rfl) (by kernel_rfl) (fun _ _ _ h => h) (Or.inl ⟨by rfl, ?h11l⟩) (by assumption) ?r11l
      case h11l => intro w hSw; (try dsimp only at hSw); go_simp; (try with_reducible rfl)
      try simp only [Act.put, List.setIfInBounds_toArray, List.set_cons_zero, List.set_cons_succ]
      refine wpAnyH_ready (rs := [12]) (by kernel_rfl) (by simp) ?_
      refine AllReadyH.cons (o := ⟨some 44, _, _, _, _, _⟩) rfl (fun K hK => ?_) AllReadyH.nil
      go_simp; (go_at_call 39; refine (HB.out _ (hPS.ro.keeps ((Keeps.refl (fun _ => False) _).drew) (fun h => h))).mono ?_; rintro z w4 ⟨rfl, hO4, hK4⟩)
      refine hK.out _ _ (by (try dsimp only); exact hHeld.trans hK4) (fun hHeld => ?_)
      clear hK K
      try simp only [Act.put, List.setIfInBounds_toArray, List.set_cons_zero, List.set_cons_succ]
      refine wpAnyH_done (by kernel_rfl) ?_ _
      have hPS4 : PS w w4 bt g p g1 g2 t s Wm i (litStep t s i O) := by
        have := hPS.row hO4 (((Keeps.refl (fun b => b = g) wr).drew).trans hK4)
        unfold litStep upd
        rw [← HM.out, HC.out, HE4.out]
        exact this
      clear hO4 hK4 HB hPS x0 y0 y1 hHeld hbl hgl hne
      have HX := hid (fun w0 hF => next8_any p s Wm i g1 g2 w0 hF hlt hs)
      go_wp2_with (go_at_call 40; refine (HX.out _ hPS4.f8).mono ?_; rintro z w5 ⟨r, rc, L, rfl, hL5, hF5, hK5, hr5, hFd⟩)
      have hPS5 := hPS4.next hF5 hK5
      have hrg : ¬ sblk r g := fun e => by have := hr5 _ e; have := hPS4.ro.lt; omega
      have hrb : ∀ b, sblk r b → b ≠ g := fun b e h => hrg (h ▸ e)
      have hOF : (edgesGo 2 L).foldl (edgeStep t i C) (litStep t s i O) = placeStep t s i L O := by unfold placeStep; rw [HC.out]
      obtain ⟨OF, hOFe⟩ : ∃ OF, placeStep t s i L O = OF := ⟨_, rfl⟩
      rw [hOFe] at hOF
      have HOF := hid hOFe
      have hLl : (litStep t s i O).length = N1 := by unfold litStep; rw [upd_length, HOL.out, HN1.out]
      have HFM := hid (fun n d => finds_mem (n := n) (d := d) hFd)
      have hLen := finds_length hFd
      have HFD := hid hFd
      have HLT := hid hlt
      clear hPS4 HX hK5 hF5 hOFe hr5 hFd
      go_loopw [11, 48] (fun s11 s48 wx => ∃ (j n : Nat) (O' : List Opt), s11 = i6 n ∧ s48 = i6 j ∧ j ≤ L.length ∧ 2 ≤ n ∧ n ≤ 1000 ∧ PS w wx bt g p g1 g2 t s Wm (i + 1) O' ∧ O'.length = N1 ∧ Sl 98 2 wx r rc L.length (cellsF L) ∧ (edgesGo n (L.drop j)).foldl (edgeStep t i C) O' = OF) (fun _ s48 _ => L.length - (intOf s48).toNat)
      case atStart => exact ⟨0, 2, _, rfl, rfl, Nat.zero_le _, Nat.le_refl _, by omega, hPS5, hLl, hL5, hOF⟩
      case round =>
        clear hPS5 hLl hL5 hOF
        obtain ⟨j, n, O', rfl, rfl, hj, hn2, hn3, hPS6, hOl6, hL6, hfold⟩ := hrel
        by_cases hjl : j < L.length
        · obtain ⟨gq, rfl⟩ := hL6.ex (by omega)
          have hgj : L[j]? = some L[j] := by simp [hjl]
          obtain ⟨b1, b2⟩ := cellsF_get L j _ hgj
          have f1 := (hL6.cell (j * 2) (by omega)).trans b1
          have f2 := (hL6.cell (j * 2 + 1) (by omega)).trans b2
          have hfm := HFM.out L[j].1 L[j].2 (List.getElem_mem hjl)
          have hdrop : L.drop j = L[j] :: L.drop (j + 1) := List.drop_eq_getElem_cons hjl
          rw [hdrop] at hfold
          obtain ⟨x, hx⟩ : ∃ x, L[j] = x := ⟨_, rfl⟩
          rw [hx] at f1 f2 hfm hfold
          obtain ⟨len, d⟩ := x
          rw [edgesGo] at hfold
          dsimp only at f1 f2 hfm
          have hali := aliN_le s (i - d) i
          rw [← hfm.2.2.2.2] at hali
          replace hfm := And.intro hfm.1 (And.intro hfm.2.1 (And.intro hfm.2.2.1 hfm.2.2.2.1))
          have hgl := hPS6.ro.lt
          have hql := hL6.lt gq rfl
          have hgq : gq ≠ g := hrb gq rfl
          have hb11 : Blk (wr.alloc (.cells #[i6 len, i6 d] 98)) wr.heap.size #[i6 len, i6 d] 98 := Blk.new _ _ _
          have hPS7 : PS w (wr.alloc (.cells #[i6 len, i6 d] 98)) bt g p g1 g2 t s Wm (i + 1) O' := hPS6.same ((Keeps.refl _ _).alloc _)
          have hL7 := hL6.same ((Keeps.refl (fun _ => False) wr).alloc (.cells #[i6 len, i6 d] 98))
          have hfb : wr.heap.size ≠ g := by omega
          obtain ⟨mx, hmx⟩ : ∃ mx, max n (len + 1) = mx := ⟨_, rfl⟩
          rw [hmx] at hfold
          have hmx2 : n ≤ mx ∧ mx ≤ 1000 ∧ len < mx ∧ (mx = n ∨ mx = len + 1) := by omega
          have HFO := hid hfold
          clear hfold hx hdrop hgj b1 b2 hmx
          go_wp2_with fail
          generalize wr.heap.size = fb at hb11 hfb ⊢
          go_loopw [11] (fun s11 wx => ∃ (m : Nat) (O2 : List Opt), s11 = i6 m ∧ n ≤ m ∧ m ≤ mx ∧ PS w wx bt g p g1 g2 t s Wm (i + 1) O2 ∧ O2.length = N1 ∧ Sl 98 2 wx (some ⟨gq, 0, none⟩) rc L.length (cellsF L) ∧ Blk wx fb #[i6 len, i6 d] 98 ∧ (edgesTo m len d ++ edgesGo mx (L.drop (j + 1))).foldl (edgeStep t i C) O2 = OF) (fun s11 _ => len + 1 - (intOf s11).toNat)
          case atStart => exact ⟨n, O', rfl, Nat.le_refl _, hmx2.1, hPS7, hOl6, hL7, hb11, HFO.out⟩
          case round =>
            clear hPS7 hOl6 hL7 hb11 HFO hPS6 hL6 f1 f2 hgl hql
            obtain ⟨m, O2, rfl, hnm, hmm, hPS8, hOl8, hL8, hb8, hfold⟩ := hrel
            have z0 := hb8.cell 0
            have z1 := hb8.cell 1
            have hfl := hb8.lt
            simp only [List.getElem?_toArray, List.getElem?_cons_succ, List.getElem?_cons_zero] at z0 z1
            by_cases hml : m ≤ len
            · rw [edgesTo_cons d hml, List.cons_append, List.foldl_cons] at hfold
              have g1d : decide ((m : Int) ≤ (len : Int)) = true := by simpa using hml
              obtain ⟨k, hk⟩ : ∃ k : Nat, k = i + m := ⟨_, rfl⟩
              have k1 : (i : Int) + (m : Int) = (k : Int) := by omega
              have hlt := HLT.out
              have k2 : k < N1 := by rw [HN1.out]; omega
              have kw : IntKind.i64.wrap (k : Int) = (k : Int) := IntWalk.i64_in _ (by omega)
              have q1 := t.dist_ok ht d
              have q2 := t.len_ok ht m
              have q3 := ht.2.1
              unfold okP at q3
              have w1 : IntKind.i64.wrap (C + t.mat) = C + t.mat := IntWalk.i64_in _ (by omega)
              have w2 : IntKind.i64.wrap (C + t.mat + t.len m) = C + t.mat + t.len m := IntWalk.i64_in _ (by omega)
              have w3 : IntKind.i64.wrap (C + t.mat + t.len m + t.dist d) = C + t.mat + t.len m + t.dist d := IntWalk.i64_in _ (by omega)
              have y0 := hPS8.tb.cell 0
              have y1 := hPS8.tb.cell 1
              have y2 := hPS8.tb.cell 2
              have y3 := hPS8.tb.cell 3
              have y4 := hPS8.tb.cell 4
              simp only [List.getElem?_toArray, List.getElem?_cons_succ, List.getElem?_cons_zero] at y0 y1 y2 y3 y4
              have hbl := hPS8.tb.lt
              have hne := hPS8.n0
              have hgk : O2[k]? = some (oat O2 k) := by unfold oat; simp [show k < O2.length by rw [hOl8]; omega]
              have HLn := hid (fun w0 => plength_any t m w0)
              have HDs := hid (fun w0 => pdist_any t ht d w0 hfm.2.1 (by omega))
              have HB := hid (fun w0 hO => better_any g k O2 (oat O2 k) (C + t.mat + t.len m + t.dist d) (matPk d m) w0 hO hgk)
              unfold Pk.val matPk at HB
              unfold Tab.val at HLn HDs
              dsimp only at HB
              have HE := hid (show C + t.mat + t.len m + t.dist d = C + t.edge m d by unfold Tab.edge; omega)
              have HK := hid hk
              have HFO := hid hfold
              have HOL8 := hid hOl8
              clear hk hgk hfold hOl8 hlt
              go_upto_region 14 with fail
              refine wp_region_held_drew (S := (fun V => Keeps (fun b => b = g) wr V)) (by kernel_rfl) (by (try dsimp only); exact (Keeps.refl _ _).drew) (fun hHeld => ?_)
              refine wpAnyH_take (i := 0) (oi := ⟨some 58, _, _, _, _, _⟩) (v := ?v0e) rfl (by kernel_rfl) (by kernel_rfl) (by kernel_rfl) (fun _ _ _ h => h) (Or.inl ⟨by rfl, ?h0e⟩) (by assumption) ?r0e
              case h0e => intro w hSw; (try dsimp only at hSw); go_simp; (try with_reducible rfl)
              try simp only [Act.put, List.setIfInBounds_toArray, List.set_cons_zero, List.set_cons_succ]
              refine wpAnyH_take (i := 1) (oi := ⟨some 59, _, _, _, _, _⟩) (v := ?v1e) rfl (by kernel_rfl) (by kernel_rfl) (by kernel_rfl) (fun _ _ _ h => h) (Or.inl ⟨by rfl, ?h1e⟩) (by assumption) ?r1e
              case h1e => intro w hSw; (try dsimp only at hSw); go_simp; (try with_reducible rfl)
              try simp only [Act.put, List.setIfInBounds_toArray, List.set_cons_zero, List.set_cons_succ]
              refine wpAnyH_take (i := 2) (oi := ⟨some 60, _, _, _, _, _⟩) (v := ?v2e) rfl (by kernel_rfl) (by kernel_rfl) (by kernel_rfl) (fun _ _ _ h => h) (Or.inl ⟨by rfl, ?h2e⟩) (by assumption) ?r2e
              case h2e => intro w hSw; (try dsimp only at hSw); go_simp; (try with_reducible rfl)
              try simp only [Act.put, List.setIfInBounds_toArray, List.set_cons_zero, List.set_cons_succ]
              refine wpAnyH_take (i := 3) (oi := ⟨some 61, _, _, _, _, _⟩) (v := ?v3e) rfl (by kernel_rfl) (by kernel_rfl) (by kernel_rfl) (fun _ _ _ h => h) (Or.inl ⟨by rfl, ?h3e⟩) (by assumption) ?r3e
              case h3e => intro w hSw; (try dsimp only at hSw); go_simp; (try with_reducible rfl)
              try simp only [Act.put, List.setIfInBounds_toArray, List.set_cons_zero, List.set_cons_succ]
              refine wpAnyH_take (i := 4) (oi := ⟨some 62, _, _, _, _, _⟩) (v := ?v4e) rfl (by kernel_rfl) (by kernel_rfl) (by kernel_rfl) (fun _ _ _ h => h) (Or.inl ⟨by rfl, ?h4e⟩) (by assumption) ?r4e
              case h4e => intro w hSw; (try dsimp only at hSw); go_simp; (try with_reducible rfl)
              try simp only [Act.put, List.setIfInBounds_toArray, List.set_cons_zero, List.set_cons_succ]
              refine wpAnyH_take (i := 5) (oi := ⟨some 63, _, _, _, _, _⟩) (v := ?v5e) rfl (by kernel_rfl) (by kernel_rfl) (by kernel_rfl) (fun _ _ _ h => h) (Or.inl ⟨by rfl, ?h5e⟩) (by assumption) ?r5e
              case h5e => intro w hSw; (try dsimp only at hSw); go_simp; (try with_reducible rfl)
              try simp only [Act.put, List.setIfInBounds_toArray, List.set_cons_zero, List.set_cons_succ]
              refine wpAnyH_take (i := 6) (oi := ⟨some 64, _, _, _, _, _⟩) (v := ?v6e) rfl (by kernel_rfl) (by kernel_rfl) (by kernel_rfl) (fun _ _ _ h => h) (Or.inl ⟨by rfl, ?h6e⟩) (by assumption) ?r6e
              case h6e => intro w hSw; (try dsimp only at hSw); go_simp; (try with_reducible rfl)
              try simp only [Act.put, List.setIfInBounds_toArray, List.set_cons_zero, List.set_cons_succ]
              refine wpAnyH_take (i := 7) (oi := ⟨some 65, _, _, _, _, _⟩) (v := ?v7e) rfl (by kernel_rfl) (by kernel_rfl) (by kernel_rfl) (fun _ _ _ h => h) (Or.inl ⟨by rfl, ?h7e⟩) (by assumption) ?r7e
              case h7e => intro w hSw; (try dsimp only at hSw); have q1 := (Keeps.cell hSw hbl hne).trans y1; go_simp; (try with_reducible rfl)
              try simp only [Act.put, List.setIfInBounds_toArray, List.set_cons_zero, List.set_cons_succ]
              refine wpAnyH_take (i := 8) (oi := ⟨some 66, _, _, _, _, _⟩) (v := ?v8e) rfl (by kernel_rfl) (by kernel_rfl) (by kernel_rfl) (fun _ _ _ h => h) (Or.inl ⟨by rfl, ?h8e⟩) (by assumption) ?r8e
              case h8e => intro w hSw; (try dsimp only at hSw); go_simp; (try with_reducible rfl)
              try simp only [Act.put, List.setIfInBounds_toArray, List.set_cons_zero, List.set_cons_succ]
              refine wpAnyH_take (i := 9) (oi := ⟨some 67, _, _, _, _, _⟩) (v := ?v9e) rfl (by kernel_rfl) (by kernel_rfl) (by kernel_rfl) (fun _ _ _ h => h) (Or.inl ⟨by rfl, ?h9e⟩) (by assumption) ?r9e
              case h9e => intro w hSw; (try dsimp only at hSw); have q0 := (Keeps.cell hSw hbl hne).trans y0; have q1 := (Keeps.cell hSw hbl hne).trans y1; have q2 := (Keeps.cell hSw hbl hne).trans y2; have q3 := (Keeps.cell hSw hbl hne).trans y3; have q4 := (Keeps.cell hSw hbl hne).trans y4; go_simp; (try with_reducible rfl)
              try simp only [Act.put, List.setIfInBounds_toArray, List.set_cons_zero, List.set_cons_succ]
              refine wpAnyH_take (i := 10) (oi := ⟨some 68, _, _, _, _, _⟩) (v := ?v10e) rfl (by kernel_rfl) (by kernel_rfl) (by kernel_rfl) (fun _ _ _ h => h) (Or.inl ⟨by rfl, ?h10e⟩) (by assumption) ?r10e
              case h10e => intro w hSw; (try dsimp only at hSw); go_simp; (try with_reducible rfl)
              try simp only [Act.put, List.setIfInBounds_toArray, List.set_cons_zero, List.set_cons_succ]
              refine wpAnyH_take (i := 13) (oi := ⟨some 71, _, _, _, _, _⟩) (v := ?v13e) rfl (by kernel_rfl) (by kernel_rfl) (by kernel_rfl) (fun _ _ _ h => h) (Or.inl ⟨by rfl, ?h13e⟩) (by assumption) ?r13e
              case h13e => intro w hSw; (try dsimp only at hSw); have q0 := (Keeps.cell hSw hbl hne).trans y0; have q1 := (Keeps.cell hSw hbl hne).trans y1; have q2 := (Keeps.cell hSw hbl hne).trans y2; have q3 := (Keeps.cell hSw hbl hne).trans y3; have q4 := (Keeps.cell hSw hbl hne).trans y4; go_simp; (try with_reducible rfl)
              try simp only [Act.put, List.setIfInBounds_toArray, List.set_cons_zero, List.set_cons_succ]
              refine wpAnyH_take (i := 14) (oi := ⟨some 72, _, _, _, _, _⟩) (v := ?v14e) rfl (by kernel_rfl) (by kernel_rfl) (by kernel_rfl) (fun _ _ _ h => h) (Or.inl ⟨by rfl, ?h14e⟩) (by assumption) ?r14e
              case h14e => intro w hSw; (try dsimp only at hSw); go_simp; (try with_reducible rfl)
              try simp only [Act.put, List.setIfInBounds_toArray, List.set_cons_zero, List.set_cons_succ]
              refine wpAnyH_take (i := 15) (oi := ⟨some 73, _, _, _, _, _⟩) (v := ?v15e) rfl (by kernel_rfl) (by kernel_rfl) (by kernel_rfl) (fun _ _ _ h => h) (Or.inl ⟨by rfl, ?h15e⟩) (by assumption) ?r15e
              case h15e => intro w hSw; (try dsimp only at hSw); have q0 := (Keeps.cell hSw hfl hfb).trans z0; have q1 := (Keeps.cell hSw hfl hfb).trans z1; go_simp; (try with_reducible rfl)
              try simp only [Act.put, List.setIfInBounds_toArray, List.set_cons_zero, List.set_cons_succ]
              refine wpAnyH_take (i := 18) (oi := ⟨some 76, _, _, _, _, _⟩) (v := ?v18e) rfl (by kernel_rfl) (by kernel_rfl) (by kernel_rfl) (fun _ _ _ h => h) (Or.inl ⟨by rfl, ?h18e⟩) (by assumption) ?r18e
              case h18e => intro w hSw; (try dsimp only at hSw); go_simp; (try with_reducible rfl)
              try simp only [Act.put, List.setIfInBounds_toArray, List.set_cons_zero, List.set_cons_succ]
              refine wpAnyH_take (i := 19) (oi := ⟨some 77, _, _, _, _, _⟩) (v := ?v19e) rfl (by kernel_rfl) (by kernel_rfl) (by kernel_rfl) (fun _ _ _ h => h) (Or.inl ⟨by rfl, ?h19e⟩) (by assumption) ?r19e
              case h19e => intro w hSw; (try dsimp only at hSw); have q0 := (Keeps.cell hSw hfl hfb).trans z0; have q1 := (Keeps.cell hSw hfl hfb).trans z1; go_simp; (try with_reducible rfl)
              try simp only [Act.put, List.setIfInBounds_toArray, List.set_cons_zero, List.set_cons_succ]
              refine wpAnyH_take (i := 20) (oi := ⟨some 78, _, _, _, _, _⟩) (v := ?v20e) rfl (by kernel_rfl) (by kernel_rfl) (by kernel_rfl) (fun _ _ _ h => h) (Or.inl ⟨by rfl, ?h20e⟩) (by assumption) ?r20e
              case h20e => intro w hSw; (try dsimp only at hSw); go_simp; (try with_reducible rfl)
              try simp only [Act.put, List.setIfInBounds_toArray, List.set_cons_zero, List.set_cons_succ]
              refine wpAnyH_take (i := 21) (oi := ⟨some 79, _, _, _, _, _⟩) (v := ?v21e) rfl (by kernel_rfl) (by kernel_rfl) (by kernel_rfl) (fun _ _ _ h => h) (Or.inl ⟨by rfl, ?h21e⟩) (by assumption) ?r21e
              case h21e => intro w hSw; (try dsimp only at hSw); go_simp; (try with_reducible rfl)
              try simp only [Act.put, List.setIfInBounds_toArray, List.set_cons_zero, List.set_cons_succ]
              refine wpAnyH_ready (rs := [11]) (by kernel_rfl) (by simp) ?_
              refine AllReadyH.cons (o := ⟨some 69, _, _, _, _, _⟩) rfl (fun K hK => ?_) AllReadyH.nil
              go_simp; (go_at_call 41; refine (HLn.out _).mono ?_; rintro z w6 ⟨rfl, hs6⟩)
              refine hK.out _ _ (by (try dsimp only); exact hHeld.trans (Keeps.of_same hs6)) (fun hHeld => ?_)
              clear hK K
              try simp only [Act.put, List.setIfInBounds_toArray, List.set_cons_zero, List.set_cons_succ]
              refine wpAnyH_take (i := 12) (oi := ⟨some 70, _, _, _, _, _⟩) (v := ?v12e) rfl (by kernel_rfl) (by kernel_rfl) (by kernel_rfl) (fun _ _ _ h => h) (Or.inl ⟨by rfl, ?h12e⟩) (by assumption) ?r12e
              case h12e => intro w hSw; (try dsimp only at hSw); go_simp; (try with_reducible rfl)
              try simp only [Act.put, List.setIfInBounds_toArray, List.set_cons_zero, List.set_cons_succ]
              refine wpAnyH_ready (rs := [16]) (by kernel_rfl) (by simp) ?_
              refine AllReadyH.cons (o := ⟨some 74, _, _, _, _, _⟩) rfl (fun K hK => ?_) AllReadyH.nil
              go_simp; (go_at_call 42; refine (HDs.out _).mono ?_; rintro z w7 ⟨rfl, hs7⟩)
              refine hK.out _ _ (by (try dsimp only); exact hHeld.trans (Keeps.of_same hs7)) (fun hHeld => ?_)
              clear hK K
              try simp only [Act.put, List.setIfInBounds_toArray, List.set_cons_zero, List.set_cons_succ]
              refine wpAnyH_take (i := 17) (oi := ⟨some 75, _, _, _, _, _⟩) (v := ?v17e) rfl (by kernel_rfl) (by kernel_rfl) (by kernel_rfl) (fun _ _ _ h => h) (Or.inl ⟨by rfl, ?h17e⟩) (by assumption) ?r17e
              case h17e => intro w hSw; (try dsimp only at hSw); go_simp; (try with_reducible rfl)
              try simp only [Act.put, List.setIfInBounds_toArray, List.set_cons_zero, List.set_cons_succ]
              refine wpAnyH_ready (rs := [22]) (by kernel_rfl) (by simp) ?_
              refine AllReadyH.cons (o := ⟨some 80, _, _, _, _, _⟩) rfl (fun K hK => ?_) AllReadyH.nil
              go_simp; (go_at_call 39; refine (HB.out _ (((hPS8.ro.keeps ((Keeps.refl (fun _ => False) _).drew) (fun h => h)).keeps hs6 (fun h => h)).keeps hs7 (fun h => h))).mono ?_; rintro z w8 ⟨rfl, hO8, hK8⟩)
              refine hK.out _ _ (by (try dsimp only); exact hHeld.trans hK8) (fun hHeld => ?_)
              clear hK K
              try simp only [Act.put, List.setIfInBounds_toArray, List.set_cons_zero, List.set_cons_succ]
              refine wpAnyH_done (by kernel_rfl) ?_ _
              have hPS9 : PS w w8 bt g p g1 g2 t s Wm (i + 1) (edgeStep t i C O2 (m, d)) := by
                have := hPS8.row hO8 hHeld
                unfold edgeStep upd
                dsimp only
                rw [← HK.out, ← HE.out]
                exact this
              have hL9 := hL8.keeps hHeld (fun b hb e => hrb b hb e)
              have hb9 := hb8.keeps hHeld hfb
              have hOl9 : (edgeStep t i C O2 (m, d)).length = N1 := by unfold edgeStep; rw [upd_length]; exact HOL8.out
              clear hO8 hK8 hHeld hPS8 HB
              have HO9 := hid hOl9
              clear hOl9
              go_wp2_with fail
              exact ⟨⟨m + 1, edgeStep t i C O2 (m, d), by go_num, by omega, by omega, hPS9, HO9.out, hL9, hb9, HFO.out⟩, by simp [intOf]; omega⟩
            · have hme : m = mx := by omega
              subst hme
              rw [edgesTo_nil d (by omega), List.nil_append] at hfold
              have g1d : decide ((m : Int) ≤ (len : Int)) = false := by simpa using hml
              have HFO := hid hfold
              clear hfold
              go_wp2_with fail
              exact ⟨⟨j + 1, m, O2, rfl, by go_num, hjl, by omega, by omega, hPS8, hOl8, hL8, HFO.out⟩, by simp [intOf]; omega⟩
        · obtain rfl : j = L.length := by omega
          rw [List.drop_length] at hfold
          have hfold' : O' = OF := hfold
          subst hfold'
          clear hfold
          go_wp2_with fail
          exact ⟨⟨i + 1, O', by go_num, HLT.out, by rw [← HOF.out]; exact .step HPT.out HLT.out HFD.out, hPS6⟩, by have := HLT.out; simp [intOf]; omega⟩
    · obtain rfl : i = s.length := by omega
      have d1 : decide ((s.length : Int) < (s.length : Int)) = false := by simp
      have hBk := hid (oback_any g N1 O wr hPS.ro (by rw [hPT.length]; omega) (by rw [hPT.length]; omega) hPT.lens)
      have hNO : O.length = N1 := by rw [hPT.length, HN1.out]
      rw [hNO] at hBk
      have HPT := hid hPT
      have hsm := hPS.sm
      clear hNO hPT hPS
      go_wp2_with (go_at_call 43; refine hBk.out.mono ?_; rintro z w4 ⟨q, c, rfl, h1, h2, h3⟩)
      go_ret
      exact ⟨O, HPT.out, q, c, rfl, h1, hsm.trans h2, fun b e => Nat.le_trans hsm.size (h3 b e)⟩
end Go.Proofs.YtalopgbkjgjppaaGreatDoor
