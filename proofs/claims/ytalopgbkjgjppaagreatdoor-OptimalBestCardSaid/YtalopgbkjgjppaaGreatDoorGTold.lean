/- Part of a proof: Told, Ol. -/
import Derived.Test.YtalopgbkjgjppaaGreatDoorGAp
import Derived.Test.YtalopgbkjgjppaaGreatDoorGLs
/- Packets told one behind the other: what applyL makes of them. -/
namespace Go.Proofs.YtalopgbkjgjppaaGreatDoor
open Go.RowKit Go.Cas

/-- Packets `ps` tell the text `bs`, whatever follows them. -/
def Told (ps : List Pk) (bs : List UInt8) : Prop :=
  ∃ r, (∀ M qs, bs.length ≤ M → applyGo M (ps ++ qs) [] (1, 1, 1, 1) = applyGo M qs bs r) ∧ (∀ M qs, M < bs.length → applyGo M (ps ++ qs) [] (1, 1, 1, 1) = ([], 11))

theorem Told.nil : Told [] [] := ⟨(1, 1, 1, 1), fun _ _ _ => rfl, fun _ _ h => absurd h (by simp)⟩

theorem Told.lit {ps : List Pk} {bs : List UInt8} (h : Told ps bs) (y : UInt8) : Told (ps ++ [⟨1, 0, 0, y⟩]) (bs ++ [y]) := by
  obtain ⟨r, h1, h2⟩ := h
  refine ⟨r, fun M qs hM => ?_, fun M qs hM => ?_⟩
  · simp only [List.length_append, List.length_cons, List.length_nil] at hM
    rw [List.append_assoc, h1 M _ (by omega)]
    simp only [List.cons_append, List.nil_append, applyGo]
    rw [if_pos (by decide), if_pos (by omega)]
  · simp only [List.length_append, List.length_cons, List.length_nil] at hM
    rw [List.append_assoc]
    by_cases hl : M < bs.length
    · exact h2 M _ hl
    · rw [h1 M _ (by omega)]
      simp only [List.cons_append, List.nil_append, applyGo]
      rw [if_pos (by decide), if_neg (by omega)]

theorem fits_match (d n : Int) (H : Nat) (a b c e : Int) (hd : 1 ≤ d) (hd2 : d ≤ H) (hH : H ≤ 1048576) (h2 : 2 ≤ n) (hn : n ≤ 273) :
    fitsL 2 d n 0 H a b c e = (d, n, (d, a, b, c), true) := by
  unfold fitsL copiesL longB
  rw [if_neg (by simp), if_pos (by simp; omega)]
  simp
  omega

theorem Told.copy {ps : List Pk} {bs : List UInt8} (h : Told ps bs) (d n : Nat) (hd : 1 ≤ d) (hd2 : d ≤ bs.length) (hH : bs.length ≤ 1048576) (hn2 : 2 ≤ n) (hn : n ≤ 273) :
    Told (ps ++ [⟨2, d, n, 0⟩]) (copyL bs d n) := by
  obtain ⟨r, h1, h2⟩ := h
  obtain ⟨r0, r1, r2, r3⟩ := r
  have hcl := copyL_length bs d n
  have hf := fits_match d n bs.length r0 r1 r2 r3 (by omega) (by omega) hH (by omega) (by omega)
  refine ⟨(d, r0, r1, r2), fun M qs hM => ?_, fun M qs hM => ?_⟩
  · rw [List.append_assoc, h1 M _ (by omega)]
    simp only [List.cons_append, List.nil_append, applyGo]
    rw [if_neg (by simp), show ((0 : UInt8).toNat : Int) = 0 from rfl, hf]
    simp only [if_true, Int.toNat_natCast]
    rw [if_pos (by omega)]
  · rw [List.append_assoc]
    by_cases hl : M < bs.length
    · exact h2 M _ hl
    · rw [h1 M _ (by omega)]
      simp only [List.cons_append, List.nil_append, applyGo]
      rw [if_neg (by simp), show ((0 : UInt8).toNat : Int) = 0 from rfl, hf]
      simp only [if_true, Int.toNat_natCast]
      rw [if_neg (by omega)]

theorem Told.yes {ps : List Pk} {bs : List UInt8} (h : Told ps bs) (most : Int) (hm : (bs.length : Int) ≤ most) : applyL ps most = (bs, 0) := by
  obtain ⟨r, h1, _⟩ := h
  have := h1 most.toNat [] (by omega)
  rw [List.append_nil] at this
  exact this

theorem Told.no {ps : List Pk} {bs : List UInt8} (h : Told ps bs) (most : Int) (hm : most < bs.length) (hb : 0 < bs.length) : applyL ps most = ([], 11) := by
  obtain ⟨r, _, h2⟩ := h
  have := h2 most.toNat [] (by omega)
  rw [List.append_nil] at this
  exact this
end Go.Proofs.YtalopgbkjgjppaaGreatDoor

/- The plain law of the cheapest way: what Plain's rows say in the end. -/
namespace Go.Proofs.YtalopgbkjgjppaaGreatDoor
open Go.RowKit Go.Cas

/-- One edge: how far, what the way costs there, its piece. -/
abbrev Ed := Nat × Int × Pk
def edStep (i : Nat) (O : List Opt) (e : Ed) : List Opt := upd O (i + e.1) e.2.1 e.2.2
def edsOf (t : Tab) (s : List UInt8) (i : Nat) (C : Int) (L : List (Nat × Nat)) : List Ed :=
  (1, C + t.lit, litPk (byte s i)) :: (edgesGo 2 L).map fun e => (e.1, C + t.edge e.1 e.2, matPk e.2 e.1)

theorem placeStep_is (t : Tab) (s : List UInt8) (i : Nat) (L : List (Nat × Nat)) (O : List Opt) : placeStep t s i L O = (edsOf t s i (oat O i).1 L).foldl (edStep i) O := by
  unfold placeStep edsOf
  rw [List.foldl_cons, List.foldl_map]
  rfl

theorem edStep_length (i : Nat) (O : List Opt) (e : Ed) : (edStep i O e).length = O.length := upd_length _ _ _ _

theorem edStep_at (i : Nat) (O : List Opt) (e : Ed) (hk : e.2.2.k ≠ 0) (j : Nat) :
    (i + e.1 ≠ j → oat (edStep i O e) j = oat O j) ∧ (oat (edStep i O e) j = oat O j ∨ i + e.1 = j ∧ j < O.length ∧ oat (edStep i O e) j = (e.2.1, e.2.2)) ∧
    ((oat O j).2.k ≠ 0 → (oat (edStep i O e) j).2.k ≠ 0 ∧ (oat (edStep i O e) j).1 ≤ (oat O j).1) ∧
    (i + e.1 = j → j < O.length → (oat (edStep i O e) j).2.k ≠ 0 ∧ (oat (edStep i O e) j).1 ≤ e.2.1) := by
  unfold edStep
  rw [oat_upd]
  by_cases h : i + e.1 = j ∧ i + e.1 < O.length
  · obtain ⟨rfl, hl⟩ := h
    rw [if_pos ⟨rfl, hl⟩]
    unfold betterO
    split
    · rename_i hc
      refine ⟨fun h => absurd rfl h, .inr ⟨rfl, hl, rfl⟩, fun h0 => ⟨hk, ?_⟩, fun _ _ => ⟨hk, Int.le_refl _⟩⟩
      rcases hc with hc | hc
      · exact absurd hc h0
      · exact Int.le_of_lt hc
    · rename_i hc
      exact ⟨fun _ => rfl, .inl rfl, fun h0 => ⟨h0, Int.le_refl _⟩, fun _ _ => ⟨fun h0 => hc (.inl h0), Int.not_lt.1 fun h0 => hc (.inr h0)⟩⟩
  · rw [if_neg h]
    exact ⟨fun _ => rfl, .inl rfl, fun h0 => ⟨h0, Int.le_refl _⟩, fun h1 h2 => absurd ⟨h1, by omega⟩ h⟩

theorem eds_fold (i : Nat) : ∀ (E : List Ed) (O : List Opt), (∀ e ∈ E, e.2.2.k ≠ 0) → ∀ j,
    ((∀ e ∈ E, i + e.1 ≠ j) → oat (E.foldl (edStep i) O) j = oat O j) ∧
    (oat (E.foldl (edStep i) O) j = oat O j ∨ ∃ e ∈ E, i + e.1 = j ∧ j < O.length ∧ oat (E.foldl (edStep i) O) j = (e.2.1, e.2.2)) ∧
    ((oat O j).2.k ≠ 0 → (oat (E.foldl (edStep i) O) j).2.k ≠ 0 ∧ (oat (E.foldl (edStep i) O) j).1 ≤ (oat O j).1) ∧
    (∀ e ∈ E, i + e.1 = j → j < O.length → (oat (E.foldl (edStep i) O) j).2.k ≠ 0 ∧ (oat (E.foldl (edStep i) O) j).1 ≤ e.2.1)
  | [], O, _, j => ⟨fun _ => rfl, .inl rfl, fun h => ⟨h, Int.le_refl _⟩, fun e he => by cases he⟩
  | e :: E, O, hE, j => by
    rw [List.foldl_cons]
    obtain ⟨a1, a2, a3, a4⟩ := edStep_at i O e (hE e (List.mem_cons_self ..)) j
    obtain ⟨b1, b2, b3, b4⟩ := eds_fold i E (edStep i O e) (fun x hx => hE x (List.mem_cons_of_mem _ hx)) j
    rw [edStep_length] at b2 b4
    refine ⟨fun h => ?_, ?_, fun h => ?_, fun x hx h1 h2 => ?_⟩
    · rw [b1 fun x hx => h x (List.mem_cons_of_mem _ hx)]
      exact a1 (h e (List.mem_cons_self ..))
    · rcases b2 with b2 | ⟨x, hx, h1, h2, h3⟩
      · rw [b2]
        rcases a2 with a2 | ⟨h1, h2, h3⟩
        · exact .inl a2
        · exact .inr ⟨e, List.mem_cons_self .., h1, h2, h3⟩
      · exact .inr ⟨x, List.mem_cons_of_mem _ hx, h1, h2, h3⟩
    · obtain ⟨c1, c2⟩ := a3 h
      obtain ⟨d1, d2⟩ := b3 c1
      exact ⟨d1, Int.le_trans d2 c2⟩
    · rcases List.mem_cons.1 hx with rfl | hx
      · obtain ⟨c1, c2⟩ := a4 h1 h2
        obtain ⟨d1, d2⟩ := b3 c1
        exact ⟨d1, Int.le_trans d2 c2⟩
      · exact b4 x hx h1 h2

/-- Of each length the nearest is among the edges. -/
theorem edges_cover (i m k : Nat) : ∀ (l : List (Nat × Nat)) (best : Nat), best < m → l.Pairwise (fun p q => q.1 < p.1) → (∃ n, (k, n) ∈ l ∧ m ≤ n) → ∃ k', k ≤ k' ∧ (m, i - k') ∈ edgesGo (best + 1) (pick i best l)
  | [], _, _, _, h => by obtain ⟨n, h, _⟩ := h; cases h
  | (k0, n0) :: l, best, hb, hs, h => by
    obtain ⟨n, hn, hmn⟩ := h
    obtain ⟨s1, s2⟩ := List.pairwise_cons.1 hs
    have hk : k ≤ k0 := by
      rcases List.mem_cons.1 hn with e | e
      · simp only [Prod.mk.injEq] at e; omega
      · have := s1 _ e; dsimp only at this; omega
    unfold pick
    by_cases h0 : best < n0
    · rw [if_pos h0]
      unfold edgesGo
      by_cases hm : m ≤ n0
      · exact ⟨k0, hk, List.mem_append_left _ (mem_edgesTo.2 ⟨by omega, hm, rfl⟩)⟩
      · obtain ⟨k', h1, h2⟩ := edges_cover i m k l n0 (by omega) s2 ⟨n, by
          rcases List.mem_cons.1 hn with e | e
          · simp only [Prod.mk.injEq] at e; omega
          · exact e, hmn⟩
        rw [show max (best + 1) (n0 + 1) = n0 + 1 from by omega]
        exact ⟨k', h1, List.mem_append_right _ h2⟩
    · rw [if_neg h0]
      exact edges_cover i m k l best hb s2 ⟨n, by
        rcases List.mem_cons.1 hn with e | e
        · simp only [Prod.mk.injEq] at e; omega
        · exact e, hmn⟩

theorem finds_cover {s : List UInt8} {W : Int} {i : Nat} {L : List (Nat × Nat)} (h : Finds s W i L) {d n : Nat} (hv : Val s W i d n) : ∃ d', d' ≤ d ∧ (n, d') ∈ edgesGo 2 L := by
  obtain ⟨t, ht, rfl, _⟩ := h
  obtain ⟨h1, h2, h3, h4, h5⟩ := hv
  obtain ⟨⟨k, m⟩, hp, hk, hm⟩ := holds_covers s W i t ht (i - d) (by omega) (by omega)
  dsimp only at hk hm
  obtain ⟨k', g1, g2⟩ := edges_cover i n k (t.met s i W) 1 (by omega) (met_is s i W t i ht.1 ht.2.1 ht.2.1).2 ⟨m, hp, by omega⟩
  exact ⟨i - k', by omega, g2⟩

theorem finds_val {s : List UInt8} {W : Int} {i : Nat} {L : List (Nat × Nat)} (h : Finds s W i L) {d n : Nat} (hm : (n, d) ∈ edgesGo 2 L) : Val s W i d n := by
  obtain ⟨h1, len, h2, h3⟩ := mem_edgesGo L 2 n d hm
  obtain ⟨g1, g2, g3, g4, g5⟩ := finds_mem h h2
  exact ⟨g2, g3, g4, h1, by omega⟩

/-- A place's cheapest way comes from a place before. -/
def From (t : Tab) (s : List UInt8) (W : Int) (i : Nat) (O : List Opt) (j : Nat) : Prop :=
  ∃ a, a < j ∧ a < i ∧ j ≤ s.length ∧ (j = a + 1 ∧ oat O j = ((oat O a).1 + t.lit, litPk (byte s a)) ∨ ∃ d n, j = a + n ∧ Val s W a d n ∧ oat O j = ((oat O a).1 + t.edge n d, matPk d n))

structure Ways (t : Tab) (s : List UInt8) (W : Int) (i : Nat) (O : List Opt) : Prop where
  start : oat O 0 = zeroO
  kind : ∀ j, 0 < j → (oat O j).2.k ≠ 0 → From t s W i O j
  set : ∀ j, 0 < j → j ≤ i → (oat O j).2.k ≠ 0
  lit : ∀ a, a < i → (oat O (a + 1)).1 ≤ (oat O a).1 + t.lit
  edge : ∀ a d n, a < i → Val s W a d n → (oat O (a + n)).2.k ≠ 0 ∧ (oat O (a + n)).1 ≤ (oat O a).1 + t.edge n d

theorem edge_mono (t : Tab) (ht : t.good) (n : Nat) {d e : Nat} (h : d ≤ e) : t.edge n d ≤ t.edge n e := by
  have := t.dist_mono ht h
  unfold Tab.edge
  omega

theorem plain_ways {t : Tab} (ht : t.good) {s : List UInt8} {W : Int} {i : Nat} {O : List Opt} (h : PlainTo t s W i O) : Ways t s W i O := by
  induction h with
  | zero =>
    have e : ∀ j, oat (List.replicate (s.length + 1) zeroO) j = zeroO := by
      intro j
      unfold oat
      rw [List.getElem?_replicate]
      split <;> rfl
    refine ⟨e 0, fun j _ h => ?_, fun j h1 h2 => by omega, fun a h => by omega, fun a d n h => by omega⟩
    rw [e j] at h
    exact absurd rfl h
  | @step i O L hp hi hf ih =>
    have hlen := hp.length
    rw [placeStep_is]
    obtain ⟨E, hE⟩ : ∃ E, edsOf t s i (oat O i).1 L = E := ⟨_, rfl⟩
    have hmem : ∀ e ∈ E, e = (1, (oat O i).1 + t.lit, litPk (byte s i)) ∨ ∃ d n, Val s W i d n ∧ e = (n, (oat O i).1 + t.edge n d, matPk d n) := by
      rw [← hE]
      intro e he
      rcases List.mem_cons.1 he with rfl | he
      · exact .inl rfl
      · obtain ⟨⟨n, d⟩, hx, rfl⟩ := List.mem_map.1 he
        exact .inr ⟨d, n, finds_val hf hx, rfl⟩
    have hkn : ∀ e ∈ E, e.2.2.k ≠ 0 := by
      intro e he
      rcases hmem e he with rfl | ⟨d, n, _, rfl⟩
      · simp [litPk]
      · simp [matPk]
    have hge : ∀ e ∈ E, 1 ≤ e.1 := by
      intro e he
      rcases hmem e he with rfl | ⟨d, n, hv, rfl⟩
      · exact Nat.le_refl _
      · have := hv.2.2.2.1; dsimp only; omega
    have F := eds_fold i E O hkn
    rw [hE]
    generalize E.foldl (edStep i) O = G at F ⊢
    have hold : ∀ j, j ≤ i → oat G j = oat O j := fun j hj => (F j).1 fun e he => by have := hge e he; omega
    refine ⟨by rw [hold 0 (Nat.zero_le _)]; exact ih.start, fun j hj hk => ?_, fun j hj hji => ?_, fun a ha => ?_, fun a d n ha hv => ?_⟩
    · rcases (F j).2.1 with e | ⟨e, he, h1, h2, h3⟩
      · rw [e] at hk
        obtain ⟨a, g1, g2, g3, g4⟩ := ih.kind j hj hk
        refine ⟨a, g1, by omega, g3, ?_⟩
        rw [hold a (by omega), e]
        exact g4
      · refine ⟨i, by have := hge e he; omega, by omega, by omega, ?_⟩
        rw [hold i (Nat.le_refl _), h3]
        rcases hmem e he with rfl | ⟨d, n, hv, rfl⟩
        · exact .inl ⟨h1.symm, rfl⟩
        · exact .inr ⟨d, n, h1.symm, hv, rfl⟩
    · by_cases hjn : j = i + 1
      · subst hjn
        exact ((F (i + 1)).2.2.2 _ (by rw [← hE]; exact List.mem_cons_self ..) rfl (by omega)).1
      · exact ((F j).2.2.1 (ih.set j hj (by omega))).1
    · by_cases han : a = i
      · subst han
        rw [hold a (Nat.le_refl _)]
        exact ((F (a + 1)).2.2.2 _ (by rw [← hE]; exact List.mem_cons_self ..) rfl (by omega)).2
      · rw [hold a (by omega), hold (a + 1) (by omega)]
        exact ih.lit a (by omega)
    · rw [hold a (by omega)]
      by_cases han : a = i
      · subst han
        obtain ⟨d', hd, hx⟩ := finds_cover hf hv
        have hin := val_in hv
        obtain ⟨c1, c2⟩ := (F (a + n)).2.2.2 (n, (oat O a).1 + t.edge n d', matPk d' n) (by rw [← hE]; exact List.mem_cons_of_mem _ (List.mem_map.2 ⟨(n, d'), hx, rfl⟩)) rfl (by omega)
        have := edge_mono t ht n hd
        dsimp only at c2
        exact ⟨c1, by omega⟩
      · obtain ⟨c1, c2⟩ := ih.edge a d n (by omega) hv
        obtain ⟨c3, c4⟩ := (F (a + n)).2.2.1 c1
        exact ⟨c3, by omega⟩

/-- A match within the window is one within the farthest distance, too. -/
theorem val_min {s : List UInt8} {W : Int} {i d n : Nat} (hi : i ≤ 1000000) : Val s (min W 1048576) i d n ↔ Val s W i d n := by
  unfold Val
  omega

theorem ways_low {t : Tab} {s : List UInt8} {W : Int} {A : Rows2} {O : List Opt} (hs : s.length ≤ 1000000) (hO : Ways t s (min W 1048576) s.length O) (hA : LeastFrom t s W A 0) : ∀ j, j ≤ s.length → A (false, 0) ≤ (oat O j).1 + A (false, j) := by
  intro j
  induction j using Nat.strongRecOn with
  | ind j ih =>
    intro hj
    rcases Nat.eq_zero_or_pos j with rfl | h0
    · rw [hO.start]; show _ ≤ (0 : Int) + _; omega
    · obtain ⟨a, g1, g2, g3, g4⟩ := hO.kind j h0 (hO.set j h0 hj)
      have hi := ih a g1 (by omega)
      have hb := hA.best a (Nat.zero_le _) g2
      rcases g4 with ⟨rfl, g4⟩ | ⟨d, n, rfl, hv, g4⟩
      · rw [g4]; have := hb.lit; dsimp only; omega
      · rw [g4]; have := hb.all d n ((val_min (by omega)).1 hv) (.inl (by have := hv.2.1; omega)); dsimp only; omega

theorem ways_high {t : Tab} {s : List UInt8} {W : Int} {A : Rows2} {O : List Opt} (hs : s.length ≤ 1000000) (hO : Ways t s (min W 1048576) s.length O) (hA : LeastFrom t s W A 0) :
    ∀ k i, s.length - i = k → i ≤ s.length → (oat O i).1 + A (false, i) ≤ A (false, 0) → (oat O s.length).1 ≤ A (false, 0) := by
  intro k
  induction k using Nat.strongRecOn with
  | ind k ih =>
    intro i hk hi h
    by_cases he : i = s.length
    · subst he
      rw [hA.fin] at h
      omega
    · have hb := hA.best i (Nat.zero_le _) (by omega)
      rcases hb.got with g | ⟨d, n, hv, g⟩
      · have := hO.lit i (by omega)
        exact ih (s.length - (i + 1)) (by omega) (i + 1) rfl (by omega) (by omega)
      · have := (hO.edge i d n (by omega) ((val_min (by omega)).2 hv)).2
        have hin := val_in hv
        have h2 := hv.2.2.2.1
        exact ih (s.length - (i + n)) (by omega) (i + n) rfl (by omega) (by omega)

theorem ways_least {t : Tab} {s : List UInt8} {W : Int} {A : Rows2} {O : List Opt} (hs : s.length ≤ 1000000) (hO : Ways t s (min W 1048576) s.length O) (hA : LeastFrom t s W A 0) : (oat O s.length).1 = A (false, 0) := by
  have h1 := ways_low hs hO hA s.length (Nat.le_refl _)
  have h2 := ways_high hs hO hA s.length 0 rfl (Nat.zero_le _) (by rw [hO.start]; show (0 : Int) + _ ≤ _; omega)
  rw [hA.fin] at h1
  omega

theorem copy_take {s : List UInt8} {i d : Nat} (h1 : 1 ≤ d) (h2 : d ≤ i) (hi : i ≤ s.length) : ∀ n, n ≤ aliN s (i - d) i → i + n ≤ s.length → copyL (s.take i) d n = s.take (i + n)
  | 0, _, _ => rfl
  | n + 1, h3, h4 => by
    have ih := copy_take h1 h2 hi n (by omega) (by omega)
    show copyL (s.take i) d n ++ [(copyL (s.take i) d n)[(copyL (s.take i) d n).length - d]?.getD 0] = _
    rw [ih]
    have e1 : (s.take (i + n)).length = i + n := by rw [List.length_take]; omega
    have hn : i + n < s.length := by omega
    have e2 : (s.take (i + n))[i + n - d]? = s[i + n]? := by
      rw [List.getElem?_take_of_lt (by omega), show i + n - d = (i - d) + n from by omega]
      exact ali_same (by omega)
    rw [e1, e2, List.getElem?_eq_getElem hn, ← Nat.add_assoc, List.take_add_one, List.getElem?_eq_getElem hn]
    rfl

/-- What the pieces from the end say of the text up to there. -/
theorem back_says {t : Tab} {s : List UInt8} {W : Int} {N : Nat} {O : List Opt} (hO : Ways t s W N O) (hN : s.length ≤ N) (hs : s.length ≤ 1000000) :
    ∀ f a, a ≤ f → a ≤ s.length → Told (backGo O f a).reverse (s.take a) ∧ sumP t (backGo O f a).reverse = (oat O a).1 ∧ Plains (backGo O f a).reverse ∧ (∀ p ∈ (backGo O f a).reverse, p.k = 2 → p.d ≤ W) ∧ (backGo O f a).length ≤ a
  | 0, a, h, _ => by
    obtain rfl : a = 0 := by omega
    refine ⟨Told.nil, by rw [hO.start]; rfl, ?_, ?_, Nat.le_refl _⟩
    · intro p hp; cases hp
    · intro p hp; cases hp
  | f + 1, a, h, ha => by
    rcases Nat.eq_zero_or_pos a with rfl | h0
    · rw [backGo_stop O _ _ (by simp)]
      refine ⟨Told.nil, by rw [hO.start]; rfl, ?_, ?_, Nat.le_refl _⟩
      · intro p hp; cases hp
      · intro p hp; cases hp
    · unfold backGo
      rw [if_pos (by omega), Int.toNat_natCast]
      obtain ⟨b, g1, g2, g3, g4⟩ := hO.kind a h0 (hO.set a h0 (by omega))
      rw [List.reverse_cons, List.length_cons]
      rcases g4 with ⟨rfl, g4⟩ | ⟨d, n, rfl, hv, g4⟩
      · rw [g4]
        dsimp only
        rw [show ((b + 1 : Nat) : Int) - max (litPk (byte s b)).l 1 = (b : Int) from by unfold litPk; dsimp only; omega]
        obtain ⟨r1, r2, r3, r4, r5⟩ := back_says hO hN hs f b (by omega) (by omega)
        refine ⟨?_, ?_, ?_, ?_, by omega⟩
        · have := r1.lit (byte s b)
          rw [show s.take (b + 1) = s.take b ++ [byte s b] from by rw [List.take_add_one, byte_get (by omega)]; rfl]
          exact this
        · rw [sumP_snoc, r2]; rfl
        · intro p hp
          rcases List.mem_append.1 hp with hp | hp
          · exact r3 p hp
          · rw [List.mem_singleton.1 hp]; exact .inl rfl
        · intro p hp hk
          rcases List.mem_append.1 hp with hp | hp
          · exact r4 p hp hk
          · rw [List.mem_singleton.1 hp] at hk; simp [litPk] at hk
      · rw [g4]
        dsimp only
        have hin := val_in hv
        obtain ⟨v1, v2, v3, v4, v5⟩ := hv
        rw [show ((b + n : Nat) : Int) - max (matPk d n).l 1 = (b : Int) from by unfold matPk; dsimp only; omega]
        obtain ⟨r1, r2, r3, r4, r5⟩ := back_says hO hN hs f b (by omega) (by omega)
        have hlt : (s.take b).length = b := by rw [List.length_take]; omega
        refine ⟨?_, ?_, ?_, ?_, by omega⟩
        · have := r1.copy d n v1 (by rw [hlt]; exact v2) (by rw [hlt]; omega) v4 (by omega)
          rw [copy_take v1 v2 (by omega) n v5 (by omega)] at this
          exact this
        · rw [sumP_snoc, r2]; rfl
        · intro p hp
          rcases List.mem_append.1 hp with hp | hp
          · exact r3 p hp
          · rw [List.mem_singleton.1 hp]
            unfold matPk
            exact .inr ⟨rfl, by dsimp only; omega, by dsimp only; omega, by dsimp only; omega, by dsimp only; omega⟩
        · intro p hp hk
          rcases List.mem_append.1 hp with hp | hp
          · exact r4 p hp hk
          · rw [List.mem_singleton.1 hp]; exact v3

theorem plain_says {t : Tab} (ht : t.good) {s : List UInt8} {W : Int} {O : List Opt} (hs : s.length ≤ 1000000) (h : PlainTo t s W s.length O) :
    applyL (obackL O) s.length = (s, 0) ∧ sumP t (obackL O) = (oat O s.length).1 ∧ Plains (obackL O) ∧ (∀ p ∈ obackL O, p.k = 2 → p.d ≤ W) ∧ (obackL O).length ≤ s.length := by
  have hl := h.length
  obtain ⟨r1, r2, r3, r4, r5⟩ := back_says (plain_ways ht h) (Nat.le_refl _) hs O.length s.length (by omega) (Nat.le_refl _)
  have e : ((O.length : Int) - 1) = (s.length : Int) := by omega
  unfold obackL
  rw [e]
  rw [List.take_length] at r1
  exact ⟨r1.yes _ (Int.le_refl _), r2, r3, r4, by rw [List.length_reverse]; exact r5⟩
end Go.Proofs.YtalopgbkjgjppaaGreatDoor
