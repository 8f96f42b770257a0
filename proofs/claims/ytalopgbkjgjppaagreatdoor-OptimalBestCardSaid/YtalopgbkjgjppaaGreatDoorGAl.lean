/- Part of a proof: Al, Fd, Ch, Nx, Lg. -/
import Derived.Test.YtalopgbkjgjppaaGreatDoorGAp
import Derived.Laws.IdiomStrings
/- The walks of Alike and of the document's Matches. -/
namespace Go.Proofs.YtalopgbkjgjppaaGreatDoor
open Go.RowKit Go.Cas

/-- How many bytes are alike from n on; at most so many more. -/
def runL (s : List UInt8) (a b : Nat) : Nat → Nat → Nat
  | 0, n => n
  | f + 1, n => if s[a + n]? = s[b + n]? then runL s a b f (n + 1) else n

def aliN (s : List UInt8) (a b : Nat) : Nat := runL s a b (min (s.length - b) 273) 0

theorem runL_le (s : List UInt8) (a b : Nat) : ∀ f n, n ≤ runL s a b f n ∧ runL s a b f n ≤ n + f
  | 0, n => ⟨Nat.le_refl _, Nat.le_refl _⟩
  | f + 1, n => by
    unfold runL
    split
    · have := runL_le s a b f (n + 1); omega
    · omega

theorem aliN_le (s : List UInt8) (a b : Nat) : aliN s a b ≤ 273 ∧ aliN s a b ≤ s.length - b := by
  have := runL_le s a b (min (s.length - b) 273) 0
  unfold aliN
  omega

set_option maxHeartbeats 4000000 in
set_option maxRecDepth 100000 in
theorem alike_any (s : List UInt8) (a b : Nat) (w : World) (hab : a < b) (hb : b ≤ s.length) (hs : s.length ≤ 1000000) :
    Calls Tryz.prog 77 #[.string ⟨s.toArray⟩, i6 a, i6 b] w fun z w' => z = .returned (i6 (aliN s a b)) ∧ Same w w' := by
  have hM : ((min (s.length - b) 273 : Nat) : Int) = min ((s.length : Int) - b) 273 := by omega
  have HT := hid (show runL s a b (min (s.length - b) 273) 0 = aliN s a b from rfl)
  have hM1 : min (s.length - b) 273 ≤ s.length - b := by omega
  have hM2 : min (s.length - b) 273 ≤ 273 := by omega
  generalize min (s.length - b) 273 = M at *
  go_enter Tryz.func77, Tryz.ntmps77
  go_upto_region 2 with fail
  have hM' : (if 273 < (s.length : Int) - b then 273 else (s.length : Int) - b) = M := by split <;> omega
  rw [hM']
  clear hM hM'
  go_wp2_with fail
  go_loopw [8] (fun n wx => ∃ k : Nat, k ≤ M ∧ n = i6 k ∧ runL s a b (M - k) k = aliN s a b ∧ Same w wx) (fun n _ => M - (intOf n).toNat)
  case atStart => exact ⟨0, Nat.zero_le _, rfl, HT.out, Keeps.refl _ _⟩
  case round =>
    obtain ⟨k, hk, rfl, hr, hsm⟩ := hrel
    clear HT
    by_cases hlt : k < M
    · have h1 : a + k < s.length := by omega
      have h2 : b + k < s.length := by omega
      have e1 : s[a + k]? = some s[a + k] := by simp [h1]
      have e2 : s[b + k]? = some s[b + k] := by simp [h2]
      have i1 : (0 : Int) ≤ (a : Int) + (k : Int) ∧ (a : Int) + (k : Int) < (s.length : Int) ∧ ((a : Int) + (k : Int)).toNat = a + k ∧ IntKind.i64.wrap ((a : Int) + (k : Int)) = (a : Int) + (k : Int) := ⟨by omega, by omega, by omega, IntWalk.i64_in _ (by omega)⟩
      have i2 : (0 : Int) ≤ (b : Int) + (k : Int) ∧ (b : Int) + (k : Int) < (s.length : Int) ∧ ((b : Int) + (k : Int)).toNat = b + k ∧ IntKind.i64.wrap ((b : Int) + (k : Int)) = (b : Int) + (k : Int) := ⟨by omega, by omega, by omega, IntWalk.i64_in _ (by omega)⟩
      rw [show M - k = (M - (k + 1)) + 1 from by omega] at hr
      unfold runL at hr
      rw [e1, e2] at hr
      have hr' := hid hr
      clear hr
      go_upto_region 3 with fail
      go_quiet (fail)
      go_wp2_with fail
      · have hq := ‹((_ : Int) == _) = true›
        have heq : s[a + k] = s[b + k] := UInt8.toNat_inj.1 (Int.ofNat.inj (eq_of_beq hq))
        have hr := hr'.out
        rw [if_pos (by rw [heq])] at hr
        exact ⟨⟨k + 1, by omega, by go_num, hr, hsm.drewN _⟩, by simp [intOf]; omega⟩
      · have hq := ‹((_ : Int) == _) = false›
        have heq : ¬ s[a + k] = s[b + k] := fun h => by
          have := ne_of_beq_false hq
          exact this (congrArg (fun x : UInt8 => (x.toNat : Int)) h)
        have hr := hr'.out
        rw [if_neg (by simpa using heq)] at hr
        go_ret
        exact ⟨congrArg (fun n : Nat => Ending.returned (i6 n)) hr, hsm.drewN _⟩
    · obtain rfl : k = M := by omega
      have hr' := hid hr
      clear hr
      go_upto_region 3 with fail
      go_quiet (fail)
      go_wp2_with fail
      go_ret
      have hr := hr'.out
      rw [Nat.sub_self] at hr
      exact ⟨congrArg (fun n : Nat => Ending.returned (i6 n)) hr, hsm.drewN _⟩

end Go.Proofs.YtalopgbkjgjppaaGreatDoor

/- What is found at a place, as the document has it; the chain's next place skips only what is no candidate. -/
namespace Go.Proofs.YtalopgbkjgjppaaGreatDoor
open Go.RowKit Go.Cas

/-- From the distance d on, at most so many more; the best till now; how many candidates were seen. -/
def foundGo (s : List UInt8) (i : Nat) (W C : Int) : Nat → Nat → Nat → Nat → List (Nat × Nat)
  | 0, _, _, _ => []
  | f + 1, d, best, seen =>
    if (d : Int) ≤ W ∧ (seen : Int) < C then
      if i + 3 ≤ s.length ∧ k3 s (i - d) = k3 s i then
        if best < aliN s (i - d) i then (aliN s (i - d) i, d) :: foundGo s i W C f (d + 1) (aliN s (i - d) i) (seen + 1) else foundGo s i W C f (d + 1) best (seen + 1)
      else foundGo s i W C f (d + 1) best seen
    else []

def foundL (s : List UInt8) (i : Nat) (W C : Int) : List (Nat × Nat) := foundGo s i W C i 1 0 0

theorem foundGo_stop (s : List UInt8) (i : Nat) (W C : Int) (f d best seen : Nat) (h : ¬ ((d : Int) ≤ W ∧ (seen : Int) < C)) : foundGo s i W C f d best seen = [] := by
  cases f with
  | zero => rfl
  | succ f => unfold foundGo; rw [if_neg h]

theorem foundGo_skip (s : List UInt8) (i : Nat) (W C : Int) (f best seen : Nat) : ∀ m d, (∀ j, j < m → ¬ (i + 3 ≤ s.length ∧ k3 s (i - (d + j)) = k3 s i)) → foundGo s i W C (m + f) d best seen = foundGo s i W C f (d + m) best seen
  | 0, d, _ => by rw [Nat.zero_add]; rfl
  | m + 1, d, h => by
    by_cases hc : (d : Int) ≤ W ∧ (seen : Int) < C
    · rw [show m + 1 + f = (m + f) + 1 from by omega, foundGo, if_pos hc, if_neg (by have := h 0 (by omega); simpa using this)]
      rw [foundGo_skip s i W C f best seen m (d + 1) (fun j hj => by have := h (j + 1) (by omega); rw [show d + 1 + j = d + (j + 1) from by omega]; exact this)]
      rw [show d + 1 + m = d + (m + 1) from by omega]
    · rw [foundGo_stop _ _ _ _ _ _ _ _ hc, foundGo_stop _ _ _ _ _ _ _ _ (by omega)]

/-- What is left to be found where the chain stands at the place k (or at its end). -/
def restC (s : List UInt8) (i : Nat) (W C : Int) (k : Int) (best seen : Nat) : List (Nat × Nat) :=
  if k < 0 then [] else foundGo s i W C (k.toNat + 1) (i - k.toNat) best seen

/-- From the place p (or from the looked-at place itself) to the one ahead of it in the chain. -/
theorem rest_next (s : List UInt8) (i : Nat) (W C : Int) (p best seen : Nat) (hp : p ≤ i) (hK : p + 3 ≤ s.length → i + 3 ≤ s.length ∧ k3 s p = k3 s i) (hS : ¬ p + 3 ≤ s.length → ¬ i + 3 ≤ s.length) :
    foundGo s i W C p (i - p + 1) best seen = restC s i W C (prevO s p) best seen := by
  unfold prevO restC
  by_cases hl : p + 3 ≤ s.length
  · obtain ⟨hil, hk⟩ := hK hl
    rw [if_pos hl]
    cases ho : lastK s (k3 s p) p with
    | none =>
      dsimp only
      rw [if_pos (by decide)]
      have := foundGo_skip s i W C 0 best seen p (i - p + 1) (fun j hj => by
        have := lastK_none s (k3 s p) p (p - 1 - j) (fun q hq => by rw [ho] at hq; cases hq) (by omega)
        rw [← hk, show i - (i - p + 1 + j) = p - 1 - j from by omega]
        intro h
        exact this ⟨by omega, h.2⟩)
      rw [Nat.add_zero] at this
      rw [this]; rfl
    | some r =>
      obtain ⟨h1, h2, h3⟩ := lastK_lt s _ _ _ ho
      dsimp only
      rw [if_neg (by omega), Int.toNat_natCast]
      have := foundGo_skip s i W C (r + 1) best seen (p - 1 - r) (i - p + 1) (fun j hj => by
        have := lastK_none s (k3 s p) p (p - 1 - j) (fun q hq => by rw [ho] at hq; cases hq; omega) (by omega)
        rw [← hk, show i - (i - p + 1 + j) = p - 1 - j from by omega]
        intro h
        exact this ⟨by omega, h.2⟩)
      rw [show p - 1 - r + (r + 1) = p from by omega] at this
      rw [this, show i - p + 1 + (p - 1 - r) = i - r from by omega]
  · rw [if_neg hl, if_pos (by decide)]
    have := foundGo_skip s i W C 0 best seen p (i - p + 1) (fun j hj => fun h => hS hl h.1)
    rw [Nat.add_zero] at this
    rw [this]; rfl

theorem found_start (s : List UInt8) (i : Nat) (W C : Int) : foundL s i W C = restC s i W C (prevO s i) 0 0 := by
  have := rest_next s i W C i 0 0 (Nat.le_refl _) (fun h => ⟨h, rfl⟩) (fun h => h)
  rw [Nat.sub_self] at this
  exact this

/-- At a candidate. -/
theorem rest_step (s : List UInt8) (i : Nat) (W C : Int) (p best seen : Nat) (hp : p < i) (hl : p + 3 ≤ s.length) (hil : i + 3 ≤ s.length) (hk : k3 s p = k3 s i) :
    restC s i W C p best seen = if ((i : Int) - p ≤ W ∧ (seen : Int) < C) then
      (if best < aliN s p i then (aliN s p i, i - p) :: restC s i W C (prevO s p) (aliN s p i) (seen + 1) else restC s i W C (prevO s p) best (seen + 1)) else [] := by
  have e1 : i - (i - p) = p := by omega
  have hn := fun b c => rest_next s i W C p b c (by omega) (fun _ => ⟨hil, hk⟩) (fun h => absurd hl h)
  rw [← hn, ← hn]
  unfold restC
  rw [if_neg (by omega), Int.toNat_natCast, foundGo, e1]
  by_cases hc : (i : Int) - p ≤ W ∧ (seen : Int) < C
  · rw [if_pos (show ((i - p : Nat) : Int) ≤ W ∧ (seen : Int) < C by omega), if_pos hc, if_pos ⟨hil, hk⟩]
  · rw [if_neg (show ¬ (((i - p : Nat) : Int) ≤ W ∧ (seen : Int) < C) by omega), if_neg hc]

def cellsF (l : List (Nat × Nat)) : List Value := l.flatMap fun p => [i6 p.1, i6 p.2]

theorem cellsF_snoc (l : List (Nat × Nat)) (p : Nat × Nat) : cellsF (l ++ [p]) = cellsF l ++ [i6 p.1, i6 p.2] := by simp [cellsF]

theorem cellsF_get : ∀ (l : List (Nat × Nat)) (k : Nat) (p : Nat × Nat), l[k]? = some p → (cellsF l)[k * 2]? = some (i6 p.1) ∧ (cellsF l)[k * 2 + 1]? = some (i6 p.2)
  | [], k, p, h => by simp at h
  | q :: l, 0, p, h => by simp at h; subst h; exact ⟨rfl, rfl⟩
  | q :: l, k + 1, p, h => by
    have ih := cellsF_get l k p (by simpa using h)
    show ([i6 q.1, i6 q.2] ++ cellsF l)[(k + 1) * 2]? = _ ∧ ([i6 q.1, i6 q.2] ++ cellsF l)[(k + 1) * 2 + 1]? = _
    rw [List.getElem?_append_right (by simp; omega), List.getElem?_append_right (by simp; omega)]
    simp only [List.length_cons, List.length_nil]
    rw [show (k + 1) * 2 - (0 + 1 + 1) = k * 2 from by omega, show (k + 1) * 2 + 1 - (0 + 1 + 1) = k * 2 + 1 from by omega]
    exact ih

theorem foundGo_bound (s : List UInt8) (i : Nat) (W C : Int) : ∀ f d best seen, d + f ≤ i + 1 → ∀ p ∈ foundGo s i W C f d best seen, p.2 ≤ i ∧ d ≤ p.2 ∧ best < p.1 ∧ p.1 = aliN s (i - p.2) i
  | 0, _, _, _, _, p, h => by simp [foundGo] at h
  | f + 1, d, best, seen, hd, p, h => by
    unfold foundGo at h
    split at h
    · split at h
      · split at h
        · rename_i hb
          rcases List.mem_cons.1 h with rfl | h
          · exact ⟨by omega, Nat.le_refl _, hb, rfl⟩
          · have := foundGo_bound s i W C f (d + 1) _ _ (by omega) p h
            exact ⟨this.1, by omega, by omega, this.2.2.2⟩
        · have := foundGo_bound s i W C f (d + 1) _ _ (by omega) p h
          exact ⟨this.1, by omega, this.2.2.1, this.2.2.2⟩
      · have := foundGo_bound s i W C f (d + 1) _ _ (by omega) p h
        exact ⟨this.1, by omega, this.2.2.1, this.2.2.2⟩
    · simp at h

theorem foundL_bound (s : List UInt8) (i : Nat) (W C : Int) : ∀ p ∈ foundL s i W C, p.2 ≤ i ∧ 1 ≤ p.2 ∧ 1 ≤ p.1 ∧ p.1 = aliN s (i - p.2) i := fun p h => by
  have := foundGo_bound s i W C i 1 0 0 (by omega) p h
  exact ⟨this.1, this.2.1, by omega, this.2.2.2⟩
end Go.Proofs.YtalopgbkjgjppaaGreatDoor

/- The walks of the finder of chains: New, Place, enter. -/
namespace Go.Proofs.YtalopgbkjgjppaaGreatDoor
open Go.RowKit Go.Cas Go.Maps

theorem Tryz.infoI : (Tryz.prog.info? 3).map (fun i => (i.zero, i.size, i.bytes)) = some (some (.int .i64 0), 1, 8) := by kernel_rfl
theorem Tryz.zeroI (w : World) : (zeroValue 3).run Tryz.prog w = .ok (.int .i64 0) w := by kernel_rfl

theorem map_keeps {H : Type} {P : Program} {k : TypeId} {R : Value → Option (DataW H × List MemPlace)} {S : Nat → Prop} {w w' : World} {b n : Nat} {D : DataW H} (h : w.ownsMap P k R b n D) (K : Keeps S w w') (hb : ¬ S b) : w'.ownsMap P k R b n D := by
  have hlt := h.lt
  obtain ⟨es, clock, h1, r⟩ := h
  exact ⟨es, clock, (K.block b hlt hb).trans h1, r⟩

/-- A finder: its text, window and cut; the place that is looked at next; so many places have been entered. -/
structure Fin (w : World) (p : Nat) (s : List UInt8) (W C : Int) (pl i mb : Nat) (q : Option Addr) (cap : Nat) : Prop where
  blk : Blk w p #[.string ⟨s.toArray⟩, i6 W, i6 C, i6 pl, .map (some mb), .slice q i cap] 160
  map : w.ownsMap Tryz.prog 22 (plainElem (H := Unit) Tryz.prog 3) mb i (mapD Unit s i)
  own : Sl 3 1 w q cap i ((List.range i).map fun j => i6 (prevO s j))
  ne1 : mb ≠ p
  ne2 : ¬ sblk q p
  ne3 : ¬ sblk q mb

/-- The blocks of a finder. -/
def finF (p mb : Nat) (q : Option Addr) : Nat → Prop := fun k => k = p ∨ k = mb ∨ sblk q k

theorem Fin.keeps {S : Nat → Prop} {w w' : World} {p : Nat} {s : List UInt8} {W C : Int} {pl i mb cap : Nat} {q : Option Addr} (h : Fin w p s W C pl i mb q cap) (k : Keeps S w w') (hn : ∀ b, finF p mb q b → ¬ S b) : Fin w' p s W C pl i mb q cap :=
  ⟨h.blk.keeps k (hn _ (.inl rfl)), map_keeps h.map k (hn _ (.inr (.inl rfl))), h.own.keeps k fun b hb => hn b (.inr (.inr hb)), h.ne1, h.ne2, h.ne3⟩

theorem Fin.lt {w : World} {p : Nat} {s : List UInt8} {W C : Int} {pl i mb cap : Nat} {q : Option Addr} (h : Fin w p s W C pl i mb q cap) : ∀ b, finF p mb q b → b < w.heap.size := by
  rintro b (rfl | rfl | e)
  · exact h.blk.lt
  · exact h.map.lt
  · exact h.own.lt b e

set_option maxHeartbeats 1000000 in
theorem chnew_any (s : List UInt8) (W C : Int) (w : World) :
    Calls Tryz.prog 44 #[.string ⟨s.toArray⟩, i6 W, i6 C] w fun z w' => ∃ p mb, z = .returned (.pointer (some ⟨p, 0, none⟩)) ∧ Same w w' ∧ Fin w' p s W C 0 0 mb none 0 ∧ w.heap.size ≤ p ∧ w.heap.size ≤ mb := by
  have hmm := @run_makeMap Tryz.prog
  go_enter Tryz.func44, Tryz.ntmps44
  go_wp2
  go_ret
  refine ⟨_, w.heap.size, rfl, ((Keeps.refl _ _).alloc _).alloc _, ⟨Blk.new_at (by simp), ?_, Sl.nil _ _ _, by simp, by simp [sblk], by simp [sblk]⟩, by simp, by simp⟩
  exact (World.ownsMap_made w _ _ _).alloc _

set_option maxHeartbeats 1000000 in
theorem chplace_any (p : Nat) (s : List UInt8) (W C : Int) (pl i mb cap : Nat) (q : Option Addr) (w : World) (h : Fin w p s W C pl i mb q cap) :
    Calls Tryz.prog 45 #[.pointer (some ⟨p, 0, none⟩)] w fun z w' => z = .returned (i6 pl) ∧ w = w' := by
  have hc := h.blk.cell 3
  simp only [List.getElem?_toArray, List.getElem?_cons_succ, List.getElem?_cons_zero] at hc
  go_enter Tryz.func45, Tryz.ntmps45
  go_wp2
  go_ret
  exact ⟨rfl, rfl⟩

theorem conv_key (s : List UInt8) (i : Nat) (hi : i + 3 ≤ s.length) (w : World) :
    ∃ cap w1, (convert 9 53 (.string ((⟨s.toArray⟩ : ByteArray).extract i (i + 3)))).run Tryz.prog w = .ok (.slice (some ⟨w.heap.size, 0, none⟩) 3 cap) w1 ∧ Same w w1 ∧ w.heap.size < w1.heap.size ∧
      w1.cell? ⟨w.heap.size, 0, none⟩ = some (b8 (k3 s i).1) ∧ w1.cell? ⟨w.heap.size, 1, none⟩ = some (b8 (k3 s i).2.1) ∧ w1.cell? ⟨w.heap.size, 2, none⟩ = some (b8 (k3 s i).2.2) := by
  have e : (⟨s.toArray⟩ : ByteArray).extract i (i + 3) = ⟨#[(k3 s i).1, (k3 s i).2.1, (k3 s i).2.2]⟩ := by
    apply ByteArray.ext
    simp only [ByteArray.data_extract, List.extract_toArray, List.extract_eq_take_drop]
    congr 1
    rw [show i + 3 - i = 3 from by omega, List.drop_eq_getElem_cons (show i < s.length by omega), List.drop_eq_getElem_cons (show i + 1 < s.length by omega), List.drop_eq_getElem_cons (show i + 1 + 1 < s.length by omega)]
    have g0 : s[i]?.getD 0 = s[i] := by simp [show i < s.length from by omega]
    have g1 : s[i + 1]?.getD 0 = s[i + 1] := by simp [show i + 1 < s.length from by omega]
    have g2 : s[i + 2]?.getD 0 = s[i + 2] := by simp [show i + 2 < s.length from by omega]
    unfold k3
    rw [g0, g1, g2]
    rfl
  rw [e]
  have hr := run_bytes_of_string (P := Tryz.prog) w 9 53 5 ⟨#[(k3 s i).1, (k3 s i).2.1, (k3 s i).2.2]⟩ Tryz.underlying9 Tryz.underlying53 Tryz.underlying5
  refine ⟨_, _, hr, ((Keeps.refl _ _).drew).alloc _, by simp, ?_, ?_, ?_⟩
  all_goals
    refine (World.cell?_alloc_mark w.drew _ _ _ _).trans ?_
    unfold bytesRow
    rw [Array.getElem?_append_left (by simp)]
    simp

def lkC (o : Option Nat) : Int := match o with | some p => (p : Int) | none => 0

theorem prevO_yes (s : List UInt8) (i : Nat) (hi : i + 3 ≤ s.length) : prevO s i = if (lastK s (k3 s i) i).isSome then lkC (lastK s (k3 s i) i) else -1 := by
  unfold prevO lkC
  rw [if_pos hi]
  cases lastK s (k3 s i) i <;> rfl

def lkV (o : Option Nat) : Value := .tuple #[i6 (lkC o), .bool o.isSome]

theorem look_key (s : List UInt8) (K : UInt8 × UInt8 × UInt8) (mb n i : Nat) (W : World) (h : W.ownsMap Tryz.prog 22 (plainElem (H := Unit) Tryz.prog 3) mb n (mapD Unit s i)) :
    (Instr.lookup 158 (.map (some mb)) (kv K) true).run Tryz.prog W = .ok (lkV (lastK s K i)) W := by
  obtain ⟨v, ps, hrun, hv⟩ := h.look_ok Tryz.keyed Tryz.underlying158 (Tryz.zeroI W) (zd := dI 0) (zp := []) (plainElem_int Tryz.underlying3 (by decide)) (keyOf_kv K)
  obtain ⟨c, rfl, hc, _⟩ := plainElem_int_inv Tryz.underlying3 hv
  rw [mapD_has] at hrun
  rw [mapD_at] at hc
  rw [hrun]
  cases ho : lastK s K i with
  | none => rw [ho] at hc; simp at hc; obtain ⟨rfl, _⟩ := hc; rfl
  | some p => rw [ho] at hc; simp at hc; obtain ⟨rfl, _⟩ := hc; rfl

theorem i6_one (x : Int) : ∀ u ∈ [i6 x], u.oneCell' = true := by intro u hu; simp at hu; subst hu; rfl

theorem ch_step {w wc w6 : World} {p : Nat} {s : List UInt8} {W C : Int} {pl i mb cap c1 : Nat} {q q1 : Option Addr} {X : Obj} (h : Fin w p s W C pl i mb q cap) (hk1 : Keeps (fun k => k = mb) w wc)
    (hmap : wc.ownsMap Tryz.prog 22 (plainElem (H := Unit) Tryz.prog 3) mb (i + 1) (mapD Unit s (i + 1)))
    (hown6 : w6.ownsRow 0 3 1 (.slice q1 (i + 1) c1) (i + 1) (((List.range i).map fun j => i6 (prevO s j)) ++ [i6 (prevO s i)])) (hk6 : Keeps (sblk q) (wc.alloc X) w6) (hat6 : ∀ k, sblk q1 k → sblk q k ∨ k = (wc.alloc X).heap.size) :
    w6.cell? ⟨p, 5, none⟩ = some (.slice q i cap) ∧ w6.frozen? ⟨p, 5, none⟩ = false ∧ p < w6.heap.size ∧
    Hid (Fin (w6.setCell ⟨p, 5, none⟩ (.slice q1 (i + 1) c1)) p s W C pl (i + 1) mb q1 c1 ∧ Keeps (finF p mb q) w (w6.setCell ⟨p, 5, none⟩ (.slice q1 (i + 1) c1)) ∧ (∀ k, sblk q1 k → sblk q k ∨ w.heap.size ≤ k)) := by
  have e1 : (wc.alloc X).heap.size = wc.heap.size + 1 := by simp
  have e2 := hk1.size
  have hb6 := ((h.blk.keeps hk1 (fun e => h.ne1 e.symm)).alloc X).keeps hk6 h.ne2
  have hm6 := map_keeps hmap (((Keeps.refl (sblk q) wc).alloc X).trans hk6) h.ne3
  have hpl := h.blk.lt
  have hml := h.map.lt
  have hp1 : ¬ sblk q1 p := fun e => by
    rcases hat6 _ e with e | e
    · exact h.ne2 e
    · omega
  have hm1 : ¬ sblk q1 mb := fun e => by
    rcases hat6 _ e with e | e
    · exact h.ne3 e
    · omega
  have KS : Keeps (fun k => k = p) w6 (w6.setCell ⟨p, 5, none⟩ (.slice q1 (i + 1) c1)) := Keeps.setCell (p := ⟨p, 5, none⟩) (Keeps.refl (fun k => k = p) w6) (fun _ => rfl) _
  refine ⟨by simpa using hb6.cell 5, hb6.frozen 5, hb6.lt, hid ⟨⟨?_, map_keeps hm6 KS h.ne1, ?_, h.ne1, hp1, hm1⟩, ?_, ?_⟩⟩
  · have := hb6.set 5 (.slice q1 (i + 1) c1)
    simpa using this
  · refine Sl.keeps ⟨?_⟩ KS (fun b hb e => hp1 (e ▸ hb))
    rw [List.range_succ, List.map_append]
    exact hown6
  · exact (((hk1.mono (S' := finF p mb q) fun b _ e => .inr (.inl e)).alloc X).trans' hk6 fun b _ e => .inr (.inr e)).trans' KS fun b _ e => .inl e
  · intro k e
    rcases hat6 _ e with e | e
    · exact .inl e
    · exact .inr (by omega)

set_option maxHeartbeats 4000000 in
set_option maxRecDepth 100000 in
theorem chenter_any (p : Nat) (s : List UInt8) (W C : Int) (pl i mb cap : Nat) (q : Option Addr) (w : World) (h : Fin w p s W C pl i mb q cap) (hil : i < s.length) (hs : s.length ≤ 1000000) :
    Calls Tryz.prog 76 #[.pointer (some ⟨p, 0, none⟩), i6 i] w fun z w' => z = .returned (i6 (prevO s i)) ∧
      ∃ q' c', Fin w' p s W C pl (i + 1) mb q' c' ∧ Keeps (finF p mb q) w w' ∧ (∀ k, sblk q' k → sblk q k ∨ w.heap.size ≤ k) := by
  have c0 := h.blk.cell 0
  have c4 := h.blk.cell 4
  simp only [List.getElem?_toArray, List.getElem?_cons_succ, List.getElem?_cons_zero] at c0 c4
  obtain ⟨i0, HI⟩ := info_hid Tryz.infoI
  go_enter Tryz.func76, Tryz.ntmps76
  go_upto_if 16 with fail
  go_cut [5] (fun s5 wx => s5 = i6 (prevO s i) ∧ Keeps (fun k => k = mb) w wx ∧ wx.ownsMap Tryz.prog 22 (plainElem (H := Unit) Tryz.prog 3) mb (i + 1) (mapD Unit s (i + 1)))
  case first =>
    by_cases hi : i + 3 ≤ s.length
    · obtain ⟨kc, w1, hcv, hs1, hz1, k0, k1, k2⟩ := conv_key s i hi w
      have hap : (Instr.arrayAt 22 (.slice (some ⟨w.heap.size, 0, none⟩) 3 kc)).run Tryz.prog w1 = .ok (.pointer (some ⟨w.heap.size, 0, none⟩)) w1 := by
        simp [Instr.arrayAt, run_underlying Tryz.underlying22, Result.andThen]
      go_upto_region 4 with fail
      have hK : Blk (w1.alloc (.cells #[b8 (k3 s i).1, b8 (k3 s i).2.1, b8 (k3 s i).2.2] 22)) w1.heap.size #[b8 (k3 s i).1, b8 (k3 s i).2.1, b8 (k3 s i).2.2] 22 := Blk.new _ _ _
      have hF := h.keeps (hs1.alloc (.cells #[b8 (k3 s i).1, b8 (k3 s i).2.1, b8 (k3 s i).2.2] 22)) (fun _ _ h => h)
      have hS := hs1.alloc (.cells #[b8 (k3 s i).1, b8 (k3 s i).2.1, b8 (k3 s i).2.2] 22)
      clear hcv hap c0 c4 k0 k1 k2
      generalize w1.heap.size = X at *
      generalize w1.alloc (.cells #[b8 (k3 s i).1, b8 (k3 s i).2.1, b8 (k3 s i).2.2] 22) = W2 at *
      have hlook := fun n => look_key s (k3 s i) mb i i (W2.drewN n) hF.map
      have c0 := hF.blk.cell 4
      have d0 := hK.cell 0
      have d1 := hK.cell 1
      have d2 := hK.cell 2
      simp only [List.getElem?_toArray, List.getElem?_cons_succ, List.getElem?_cons_zero] at c0 d0 d1 d2
      unfold lkV at hlook
      go_cut [7, 8] (fun s7 s8 wx => s7 = i6 (lkC (lastK s (k3 s i) i)) ∧ s8 = .bool (lastK s (k3 s i) i).isSome ∧ Same W2 wx)
      case first =>
        go_quiet (fail)
        go_wp2_with fail
        go_meet
        exact ⟨rfl, rfl, (Keeps.refl _ _).drewN _⟩
      case rest =>
        obtain ⟨rfl, rfl, hs2⟩ := hcut
        replace hF := hF.keeps hs2 (fun _ _ h => h)
        replace hS := hS.trans hs2
        replace hK := hK.keeps hs2 (fun h => h)
        clear hlook c0 d0 d1 d2 hs2 hs1
        have hpv := prevO_yes s i hi
        go_upto_if 37 with fail
        go_cut [5, 8] (fun s5 s8 wx => s5 = i6 (prevO s i) ∧ wx = wc)
        case first =>
          cases ho : (lastK s (k3 s i) i).isSome with
          | true =>
            rw [ho] at hpv
            simp only [if_true] at hpv
            go_wp2_with fail
            go_meet
            exact ⟨by rw [hpv], rfl⟩
          | false =>
            rw [ho] at hpv
            simp only [Bool.false_eq_true, if_false] at hpv
            go_wp2_with fail
            go_meet
            exact ⟨by rw [hpv], rfl⟩
        case rest =>
          obtain ⟨rfl, rfl⟩ := hcut
          clear hpv
          obtain ⟨w5, hrun, r1, r2⟩ := World.ownsMap.store (w := wc.drew) hF.map Tryz.keyed Tryz.underlying158 (by unfold maxLen; omega) (keyOf_kv (k3 s i)) (plainElem_int (a := (i : Int)) Tryz.underlying3 (by simp [Lit.wf, IntKind.min, IntKind.max, IntKind.signed, IntKind.bits]; omega))
          have hK5 : Keeps (fun b => b = mb) wc w5 := (Keeps.grown ((Keeps.refl (fun b => b = mb) wc).drew) r2.grown (fun k e _ => by simpa using e.symm))
          have e4 := hF.blk.cell 4
          have e0 := hK.cell 0
          have e1 := hK.cell 1
          have e2 := hK.cell 2
          have l1 := hF.blk.lt
          have l2 := hK.lt
          have n1 : ¬ p = mb := fun e => hF.ne1 e.symm
          have n2 : ¬ X = mb := fun e => by have := h.map.lt; omega
          simp only [List.getElem?_toArray, List.getElem?_cons_succ, List.getElem?_cons_zero] at e4 e0 e1 e2
          go_upto_region 7 with fail
          refine wp_region_held_drew (S := (fun V => Keeps (fun b => b = mb) wc V)) (by kernel_rfl) (by (try dsimp only); exact (Keeps.refl _ _).drew) (fun hHeld => ?_)
          refine wpAnyH_take (i := 0) (oi := ⟨some 39, _, _, _, _, _⟩) (v := ?v0m) rfl (by kernel_rfl) (by kernel_rfl) (by kernel_rfl) (fun _ _ _ h => h) (Or.inl ⟨by rfl, ?h0m⟩) (by assumption) ?r0m
          case h0m => intro w hSw; (try dsimp only at hSw); go_simp; (try with_reducible rfl)
          try simp only [Act.put, List.setIfInBounds_toArray, List.set_cons_zero, List.set_cons_succ]
          refine wpAnyH_take (i := 1) (oi := ⟨some 40, _, _, _, _, _⟩) (v := ?v1m) rfl (by kernel_rfl) (by kernel_rfl) (by kernel_rfl) (fun _ _ _ h => h) (Or.inl ⟨by rfl, ?h1m⟩) (by assumption) ?r1m
          case h1m => intro w hSw; (try dsimp only at hSw); go_simp; (try with_reducible rfl)
          try simp only [Act.put, List.setIfInBounds_toArray, List.set_cons_zero, List.set_cons_succ]
          refine wpAnyH_take (i := 2) (oi := ⟨some 41, _, _, _, _, _⟩) (v := ?v2m) rfl (by kernel_rfl) (by kernel_rfl) (by kernel_rfl) (fun _ _ _ h => h) (Or.inl ⟨by rfl, ?h2m⟩) (by assumption) ?r2m
          case h2m => intro w hSw; (try dsimp only at hSw); go_simp; (try with_reducible rfl)
          try simp only [Act.put, List.setIfInBounds_toArray, List.set_cons_zero, List.set_cons_succ]
          refine wpAnyH_take (i := 3) (oi := ⟨some 42, _, _, _, _, _⟩) (v := ?v3m) rfl (by kernel_rfl) (by kernel_rfl) (by kernel_rfl) (fun _ _ _ h => h) (Or.inl ⟨by rfl, ?h3m⟩) (by assumption) ?r3m
          case h3m => intro w hSw; (try dsimp only at hSw); have q4 := (Keeps.cell hSw (p := ⟨p, 4, none⟩) l1 n1).trans e4; go_simp; (try with_reducible rfl)
          try simp only [Act.put, List.setIfInBounds_toArray, List.set_cons_zero, List.set_cons_succ]
          refine wpAnyH_take (i := 4) (oi := ⟨some 43, _, _, _, _, _⟩) (v := ?v4m) rfl (by kernel_rfl) (by kernel_rfl) (by kernel_rfl) (fun _ _ _ h => h) (Or.inl ⟨by rfl, ?h4m⟩) (by assumption) ?r4m
          case h4m => intro w hSw; (try dsimp only at hSw); have q0 := (Keeps.cell hSw (p := ⟨X, 0, none⟩) l2 n2).trans e0; have q1 := (Keeps.cell hSw (p := ⟨X, 1, none⟩) l2 n2).trans e1; have q2 := (Keeps.cell hSw (p := ⟨X, 2, none⟩) l2 n2).trans e2; go_simp; (try with_reducible rfl)
          try simp only [Act.put, List.setIfInBounds_toArray, List.set_cons_zero, List.set_cons_succ]
          refine wpAnyH_take (i := 5) (oi := ⟨some 44, _, _, _, _, _⟩) (v := ?v5m) rfl (by kernel_rfl) (by kernel_rfl) (by kernel_rfl) (fun _ _ _ h => h) (Or.inl ⟨by rfl, ?h5m⟩) (by assumption) ?r5m
          case h5m => intro w hSw; (try dsimp only at hSw); go_simp; (try with_reducible rfl)
          try simp only [Act.put, List.setIfInBounds_toArray, List.set_cons_zero, List.set_cons_succ]
          refine wpAnyH_ready (rs := [6]) (by kernel_rfl) (by simp) ?_
          refine AllReadyH.cons (o := ⟨none, _, _, _, _, _⟩) rfl (fun K hK => ?_) AllReadyH.nil
          go_simp
          refine hK.out _ _ (by (try dsimp only); exact hK5) (fun hHeld => ?_)
          clear hK K
          try simp only [Act.put, List.setIfInBounds_toArray, List.set_cons_zero, List.set_cons_succ]
          refine wpAnyH_done (by kernel_rfl) ?_ _
          go_wp2_with fail
          go_meet
          refine ⟨rfl, (Keeps.of_same hS).trans hK5, ?_⟩
          have : mapD Unit s (i + 1) = (mapD Unit s i).put (kl (k3 s i)) (dI i) := by rw [mapD, if_pos hi]
          rw [this]
          exact r1
    · have hp : prevO s i = -1 := by unfold prevO; rw [if_neg hi]
      have hm : mapD Unit s (i + 1) = mapD Unit s i := by rw [mapD, if_neg hi]
      go_wp2_with fail
      go_meet
      exact ⟨by rw [hp], Keeps.refl _ _, by rw [hm]; exact h.map.mono (by omega)⟩
  case rest =>
    obtain ⟨rfl, hk1, hmap⟩ := hcut
    have hb1 := h.blk.keeps hk1 (fun e => h.ne1 e.symm)
    have ho1 := h.own.keeps hk1 (fun b hb e => h.ne3 (e ▸ hb))
    have c5 := hb1.cell 5
    have cf := hb1.frozen 5
    have hl := hb1.lt
    have hz := hk1.size
    have H1 := hid (show i + 1 ≤ maxLen by unfold maxLen; omega)
    have H2 := hid (show (i + 1) * 8 ≤ 140737488355328 by omega)
    simp only [List.getElem?_toArray, List.getElem?_cons_succ, List.getElem?_cons_zero] at c5
    clear c0 c4
    go_wp2_with ((at_builtin; refine wpList_push _ rfl (.tmp 49) (.tmp 51) 114 rfl 3 i0 (.int .i64 0) 1 8 Tryz.underlying114 HI rfl (by decide) q i cap ((List.range i).map fun j => i6 (prevO s j)) ?_ ?_ ⟨wc.heap.size, 0, none⟩ 1 1 [i6 (prevO s i)] ?_ rfl ?_ (i6_one _) H1 H2 ?_; exact rfl; exact ho1.own.alloc _; exact rfl; exact cell_one_at (by simp); intro q1 c1 w6 hown6 hk6 hat6 _; have HX := hid (ch_step h hk1 hmap hown6 hk6 hat6); have hx1 := HX.out.1; have hx2 := HX.out.2.1; have hx3 := HX.out.2.2.1; clear hown6 hk6 hat6))
    go_ret
    exact ⟨rfl, q1, c1, HX.out.2.2.2.out⟩
end Go.Proofs.YtalopgbkjgjppaaGreatDoor

/- The walk of the finder's Next. -/
namespace Go.Proofs.YtalopgbkjgjppaaGreatDoor
open Go.RowKit Go.Cas Go.Maps

theorem Tryz.infoF : (Tryz.prog.info? 98).map (fun i => (i.zero, i.size, i.bytes)) = some (some (.agg #[.int .i64 0, .int .i64 0]), 2, 16) := by kernel_rfl
theorem zF : (Value.agg #[.int .i64 0, .int .i64 0]).cells.size = 2 := by kernel_rfl

theorem cells_two_at {w : World} {n : Nat} {x0 x1 : Value} {t : TypeId} (h : n = w.heap.size) : ∀ j u, [x0, x1][j]? = some u → (w.alloc (.cells #[x0, x1] t)).cell? ((⟨n, 0, none⟩ : Addr).add j) = some u := by
  subst h
  intro j u hj
  rw [show (⟨w.heap.size, 0, none⟩ : Addr).add j = ⟨w.heap.size, j, none⟩ from by unfold Addr.add; split <;> simp_all, World.cell?_alloc_new]
  match j, hj with
  | 0, hj => exact hj
  | 1, hj => exact hj

theorem two_one (a b : Int) : ∀ u ∈ [i6 a, i6 b], u.oneCell' = true := by intro u hu; simp at hu; rcases hu with rfl | rfl <;> rfl

set_option maxHeartbeats 1000000 in
set_option maxRecDepth 100000 in
theorem chnext_no (p : Nat) (s : List UInt8) (W C : Int) (pl i mb cap : Nat) (q : Option Addr) (w : World) (h : Fin w p s W C pl i mb q cap) (hi : s.length ≤ pl) :
    Calls Tryz.prog 47 #[.pointer (some ⟨p, 0, none⟩)] w fun z w' => z = .returned (.slice none 0 0) ∧ Same w w' := by
  have c0 := h.blk.cell 0
  have c3 := h.blk.cell 3
  simp only [List.getElem?_toArray, List.getElem?_cons_succ, List.getElem?_cons_zero] at c0 c3
  have hd : decide (s.length ≤ pl) = true := by simpa using hi
  go_enter Tryz.func47, Tryz.ntmps47
  go_upto_region 1 with fail
  go_quiet (fail)
  go_wp2_with fail
  go_ret
  exact ⟨rfl, (Keeps.refl _ _).drewN _⟩

theorem prevO_some (s : List UInt8) (m : Nat) (h : 0 ≤ prevO s m) : ∃ m' : Nat, prevO s m = m' ∧ m' + 3 ≤ s.length ∧ m + 3 ≤ s.length ∧ k3 s m' = k3 s m := by
  unfold prevO at h ⊢
  by_cases hl : m + 3 ≤ s.length
  · rw [if_pos hl] at h ⊢
    cases ho : lastK s (k3 s m) m with
    | none => rw [ho] at h; exact absurd h (by decide)
    | some r => exact ⟨r, rfl, (lastK_lt s _ _ _ ho).2.1, hl, (lastK_lt s _ _ _ ho).2.2⟩
  · rw [if_neg hl] at h; exact absurd h (by decide)

theorem fin_ahead {w : World} {p : Nat} {s : List UInt8} {W C : Int} {pl i mb g cap : Nat} (h : Fin w p s W C pl i mb (some ⟨g, 0, none⟩) cap) (j : Nat) (hj : j < i) : w.cell? ⟨g, j, none⟩ = some (i6 (prevO s j)) := by
  rw [h.own.cell j (by omega)]
  simp [hj]

/-- What Next leaves. -/
def NextLeft (p : Nat) (s : List UInt8) (W C : Int) (i mb : Nat) (q : Option Addr) (w w' : World) : Prop :=
  ∃ q' c', Fin w' p s W C (i + 1) (i + 1) mb q' c' ∧ Keeps (finF p mb q) w w' ∧ (∀ k, sblk q' k → sblk q k ∨ w.heap.size ≤ k)

set_option maxHeartbeats 4000000 in
set_option maxRecDepth 100000 in
theorem chnext_yes (p : Nat) (s : List UInt8) (W C : Int) (i mb cap : Nat) (q : Option Addr) (w : World) (h : Fin w p s W C i i mb q cap) (hi : i < s.length) (hs : s.length ≤ 1000000) :
    Calls Tryz.prog 47 #[.pointer (some ⟨p, 0, none⟩)] w fun z w' => ∃ r rc, z = .returned (.slice r (foundL s i W C).length rc) ∧ Sl 98 2 w' r rc (foundL s i W C).length (cellsF (foundL s i W C)) ∧ NextLeft p s W C i mb q w w' := by
  have c0 := h.blk.cell 0
  have c3 := h.blk.cell 3
  have cf := h.blk.frozen 3
  have hpl := h.blk.lt
  simp only [List.getElem?_toArray, List.getElem?_cons_succ, List.getElem?_cons_zero] at c0 c3
  have hd : decide (s.length ≤ i) = false := by simpa using hi
  obtain ⟨i0, HI⟩ := info_hid Tryz.infoF
  go_enter Tryz.func47, Tryz.ntmps47
  go_upto_region 1 with fail
  go_quiet (fail)
  have h1 : Fin ((w.drewN nq).setCell ⟨p, 3, none⟩ (i6 ((i + 1 : Nat) : Int))) p s W C (i + 1) i mb q cap := by
    have hk : Keeps (fun k => k = p) w ((w.drewN nq).setCell ⟨p, 3, none⟩ (i6 ((i + 1 : Nat) : Int))) := Keeps.setCell (p := ⟨p, 3, none⟩) ((Keeps.refl (fun k => k = p) w).drewN nq) (fun _ => rfl) _
    refine ⟨?_, map_keeps h.map hk h.ne1, h.own.keeps hk (fun b hb e => h.ne2 (e ▸ hb)), h.ne1, h.ne2, h.ne3⟩
    have := (h.blk.keeps ((Keeps.refl (fun _ => False) w).drewN nq) (fun h => h)).set 3 (i6 ((i + 1 : Nat) : Int))
    simpa using this
  have hk1 : Keeps (finF p mb q) w ((w.drewN nq).setCell ⟨p, 3, none⟩ (i6 ((i + 1 : Nat) : Int))) := Keeps.setCell (p := ⟨p, 3, none⟩) ((Keeps.refl _ w).drewN nq) (fun _ => .inl rfl) _
  have hen := hid (chenter_any p s W C (i + 1) i mb cap q _ h1 hi hs)
  go_wp2_with ((go_at_call 76; refine hen.out.mono ?_; rintro z w1 ⟨rfl, q', c', hF1, hk2, hq2⟩))
  obtain ⟨g, rfl⟩ := hF1.own.ex (by omega)
  have hk3 : Keeps (finF p mb q) w w1 := hk1.trans hk2
  have hq3 : ∀ k, sblk (some ⟨g, 0, none⟩) k → sblk q k ∨ w.heap.size ≤ k := fun k e => (hq2 k e).imp id fun h => by simp at h; exact h
  have hst := found_start s i W C
  have hpv := prevO_lt s i
  have hz1 := hk3.size
  clear hen h1 hk1 hk2 hq2 c0 c3 cf hd
  go_loopw [4, 5, 6, 7] (fun out b k sn wx => ∃ (L : List (Nat × Nat)) (best seen : Nat) (kk : Int) (r : Option Addr) (rc : Nat), out = .slice r L.length rc ∧ b = i6 best ∧ k = i6 kk ∧ sn = i6 seen ∧ Sl 98 2 wx r rc L.length (cellsF L) ∧ (∀ b, sblk r b → w1.heap.size ≤ b) ∧ Same w1 wx ∧
      L ++ restC s i W C kk best seen = foundL s i W C ∧ -1 ≤ kk ∧ kk < i ∧ (seen : Int) + kk < i ∧ L.length ≤ seen ∧ (0 ≤ kk → ∃ m : Nat, kk = m ∧ m + 3 ≤ s.length ∧ i + 3 ≤ s.length ∧ k3 s m = k3 s i)) (fun _ _ k _ _ => (intOf k + 1).toNat)
  case atStart =>
    refine ⟨[], 0, 0, prevO s i, none, 0, rfl, rfl, rfl, rfl, Sl.nil _ _ _, by simp [sblk], Keeps.refl _ _, by rw [hst]; rfl, hpv.1, hpv.2, by simpa using hpv.2, Nat.le_refl _, ?_⟩
    intro h0
    obtain ⟨m', e1, e2, e3, e4⟩ := prevO_some s i h0
    exact ⟨m', e1, e2, e3, e4⟩
  case round =>
    obtain ⟨L, best, seen, kk, r, rc, rfl, rfl, rfl, rfl, hR, hge, hsm, hrest, hk0, hki, hsi, hLs, hkk⟩ := hrel
    clear hst hpv
    have hF2 := hF1.keeps hsm (fun _ _ h => h)
    have c0 := hF2.blk.cell 0
    have c1 := hF2.blk.cell 1
    have c2 := hF2.blk.cell 2
    have c5 := hF2.blk.cell 5
    simp only [List.getElem?_toArray, List.getElem?_cons_succ, List.getElem?_cons_zero] at c0 c1 c2 c5
    by_cases h0 : 0 ≤ kk
    · obtain ⟨m, rfl, hm3, hi3, hmk⟩ := hkk h0
      have hmi : m < i := by omega
      have hstep := rest_step s i W C m best seen hmi hm3 hi3 hmk
      have hpm := prevO_lt s m
      have hne : ((m : Int) != -1) = true := by simp
      have hw0 : IntKind.i64.wrap ((i : Int) - (m : Int)) = (i : Int) - (m : Int) := IntWalk.i64_in _ (by omega)
      have hA := hid (fun w0 => alike_any s m i w0 hmi (by omega) hs)
      have hal := aliN_le s m i
      generalize aliN s m i = n at *
      rw [hstep] at hrest
      have hgl := hF1.lt g (.inr (.inr rfl))
      have hnx : 0 ≤ prevO s m → ∃ m' : Nat, prevO s m = m' ∧ m' + 3 ≤ s.length ∧ i + 3 ≤ s.length ∧ k3 s m' = k3 s i := fun h0 => by
        obtain ⟨m', e1, e2, e3, e4⟩ := prevO_some s m h0
        exact ⟨m', e1, e2, hi3, e4.trans hmk⟩
      have H1 := hid (show L.length + 1 ≤ maxLen by unfold maxLen; omega)
      have H2 := hid (show (L.length + 1) * 16 ≤ 140737488355328 by omega)
      have hnx' := hid hnx
      have hmi3 : ((i - m : Nat) : Int) = (i : Int) - m := by omega
      clear hstep hnx hkk c0
      have c0 := hF2.blk.cell 0
      simp only [List.getElem?_toArray, List.getElem?_cons_zero] at c0
      by_cases hc1 : (i : Int) - m ≤ W
      · by_cases hc2 : (seen : Int) < C
        · rw [if_pos ⟨hc1, hc2⟩] at hrest
          by_cases hb : best < n
          · rw [if_pos hb] at hrest
            have HRS := hid hrest
            have hE := hid hmi3
            clear hrest hmi3
            go_wp2_with (first | (at_builtin; refine wpList_push _ rfl (.tmp 70) (.tmp 76) 95 rfl 98 i0 (.agg #[.int .i64 0, .int .i64 0]) 2 16 Tryz.underlying95 HI zF (by decide) r L.length rc (cellsF L) ?_ ?_ ⟨w4.heap.size, 0, none⟩ 1 1 [i6 n, i6 ((i : Int) - m)] ?_ rfl ?_ (two_one _ _) H1 H2 ?_; exact rfl; exact hR4.own.alloc _; exact rfl; exact cells_two_at (by simp); intro r2 rc2 w6 hown6 hk6 hat6 _; have HR := hid (Sl.push hsm4 hge hown6 hk6 hat6); have hF6 := hF4.keeps HR.out.2.2.2.1 (fun b hb e => by have := hge b e; have := hF1.lt b hb; omega); have d5 := hF6.blk.cell 5; have dat := fin_ahead hF6 m (by omega); simp only [List.getElem?_toArray, List.getElem?_cons_succ, List.getElem?_cons_zero] at d5; clear hown6 hk6 hat6) | (go_at_call 77; refine (hA.out _).mono ?_; rintro z w4 ⟨rfl, hs4⟩; have hF4 := hF2.keeps hs4 (fun _ _ h => h); have hR4 := hR.same hs4; have hsm4 := hsm.trans hs4; have d5 := hF4.blk.cell 5; have dat := fin_ahead hF4 m (by omega); simp only [List.getElem?_toArray, List.getElem?_cons_succ, List.getElem?_cons_zero] at d5))
            obtain ⟨t1, t2, t3, t4, t5⟩ := HR.out
            refine ⟨⟨L ++ [(n, i - m)], n, seen + 1, prevO s m, r2, rc2, by simp, rfl, rfl, by go_num, ?_, t2, t3, by rw [List.append_assoc]; exact HRS.out, hpm.1, by omega, by push_cast; omega, by simp; omega, hnx'.out⟩, by simp [intOf]; omega⟩
            rw [cellsF_snoc, List.length_append, hE.out]
            exact t1
          · rw [if_neg hb] at hrest
            have HRS := hid hrest
            clear hrest hmi3
            go_wp2_with (first | (go_at_call 77; refine (hA.out _).mono ?_; rintro z w4 ⟨rfl, hs4⟩; have hF4 := hF2.keeps hs4 (fun _ _ h => h); have hR4 := hR.same hs4; have hsm4 := hsm.trans hs4; have d5 := hF4.blk.cell 5; have dat := fin_ahead hF4 m (by omega); simp only [List.getElem?_toArray, List.getElem?_cons_succ, List.getElem?_cons_zero] at d5))
            exact ⟨⟨L, best, seen + 1, prevO s m, r, rc, rfl, rfl, rfl, by go_num, hR4, hge, hsm4, HRS.out, hpm.1, by omega, by push_cast; omega, by omega, hnx'.out⟩, by simp [intOf]; omega⟩
        · rw [if_neg (fun h => hc2 h.2), List.append_nil] at hrest
          have HRS := hid hrest
          have hc2' : decide ((seen : Int) < C) = false := by simpa using hc2
          have hc1' : decide ((i : Int) - m ≤ W) = true := by simpa using hc1
          clear hrest hmi3 hc2
          go_wp2_with fail
          go_ret
          rw [← HRS.out]
          exact ⟨r, rc, rfl, hR, _, _, hF2, hk3.trans (Keeps.of_same hsm), hq3⟩
      · rw [if_neg (fun h => hc1 h.1), List.append_nil] at hrest
        have HRS := hid hrest
        have hc1' : decide ((i : Int) - m ≤ W) = false := by simpa using hc1
        clear hrest hmi3 hc1
        go_wp2_with fail
        go_ret
        rw [← HRS.out]
        exact ⟨r, rc, rfl, hR, _, _, hF2, hk3.trans (Keeps.of_same hsm), hq3⟩
    · have hk1 : kk = -1 := by omega
      subst hk1
      have HR := hid hrest
      clear hrest hkk
      go_wp2_with fail
      go_ret
      have hr := HR.out
      unfold restC at hr
      rw [if_pos (by decide), List.append_nil] at hr
      rw [← hr]
      exact ⟨r, rc, rfl, hR, _, _, hF2, hk3.trans (Keeps.of_same hsm), hq3⟩
end Go.Proofs.YtalopgbkjgjppaaGreatDoor

/- The walks of greedy.Longest and of the document's At and Longest. -/
namespace Go.Proofs.YtalopgbkjgjppaaGreatDoor
open Go.RowKit Go.Cas

/-- The last one found; zero where there is none. -/
def lastF (l : List (Nat × Nat)) : Nat × Nat := (l.getLast?).getD (0, 0)

theorem last_get (l : List (Nat × Nat)) (h : 0 < l.length) : l[l.length - 1]? = some (lastF l) := by
  unfold lastF
  rw [List.getLast?_eq_getElem?]
  have h1 : l.length - 1 < l.length := by omega
  simp [h1]

set_option maxHeartbeats 2000000 in
set_option maxRecDepth 100000 in
theorem longest_any (L : List (Nat × Nat)) (r : Option Addr) (rc : Nat) (w : World) (hS : Sl 98 2 w r rc L.length (cellsF L)) (hd : ∀ p ∈ L, p.2 ≤ 1048576) (hL : L.length ≤ 1000000) :
    Calls Tryz.prog 46 #[.slice r L.length rc] w fun z w' => z = .returned (.tuple #[.agg #[i6 (lastF L).1, i6 (lastF L).2], .bool (decide (0 < L.length))]) ∧ Same w w' := by
  by_cases h0 : 0 < L.length
  · obtain ⟨g, rfl⟩ := hS.ex h0
    have hg := last_get L h0
    obtain ⟨e1, e2⟩ := cellsF_get L _ _ hg
    have d1 := hS.cell ((L.length - 1) * 2) (by omega)
    have d2 := hS.cell ((L.length - 1) * 2 + 1) (by omega)
    rw [e1] at d1
    rw [e2] at d2
    have hdd : (lastF L).2 ≤ 1048576 := hd _ (List.mem_of_getElem? hg)
    have hgl := hS.lt g rfl
    generalize lastF L = x at *
    obtain ⟨n, d⟩ := x
    have hm : ((L.length : Int) - 1) = ((L.length - 1 : Nat) : Int) := by omega
    obtain ⟨m, hm2⟩ : ∃ m, L.length = m + 1 := ⟨L.length - 1, by omega⟩
    rw [hm2] at d1 d2 ⊢
    rw [Nat.add_sub_cancel] at d1 d2
    clear hg e1 e2 hm hS hd
    dsimp only at d1 d2 hdd ⊢
    go_enter Tryz.func46, Tryz.ntmps46
    go_wp2
    refine wp_loop_rounds 1 ?_
    rw [rounds_succ]
    go_wp2
    refine bodyPost_ret (v := .tuple #[.agg #[i6 n, i6 d], .bool true]) (by simp [results, Tryz.results46, go_sem]) rfl ⟨by simp, ?_⟩
    repeat (first | exact Keeps.refl _ _ | refine Keeps.drew ?_ | refine Keeps.drewN ?_ _ | refine Keeps.alloc ?_ _ | refine Keeps.setCell ?_ (by simp; try omega) _ | exact Hid.out (by assumption) | refine Keeps.trans ?_ (by assumption))
  · have h00 : L.length = 0 := by omega
    obtain rfl : L = [] := List.eq_nil_of_length_eq_zero h00
    go_enter Tryz.func46, Tryz.ntmps46
    go_wp2
    refine wp_loop_rounds 1 ?_
    rw [rounds_succ]
    go_wp2
    refine bodyPost_ret (v := .tuple #[.agg #[i6 0, i6 0], .bool false]) (by simp [results, Tryz.results46, go_sem]) rfl ⟨by simp [lastF], ?_⟩
    repeat (first | exact Keeps.refl _ _ | refine Keeps.drew ?_ | refine Keeps.drewN ?_ _ | refine Keeps.alloc ?_ _ | refine Keeps.setCell ?_ (by simp; try omega) _ | exact Hid.out (by assumption) | refine Keeps.trans ?_ (by assumption))

theorem extract_k3 (s : List UInt8) (i : Nat) (hi : i + 3 ≤ s.length) : (⟨s.toArray⟩ : ByteArray).extract i (i + 3) = ⟨#[(k3 s i).1, (k3 s i).2.1, (k3 s i).2.2]⟩ := by
  apply ByteArray.ext
  simp only [ByteArray.data_extract, List.extract_toArray, List.extract_eq_take_drop]
  congr 1
  rw [show i + 3 - i = 3 from by omega, List.drop_eq_getElem_cons (show i < s.length by omega), List.drop_eq_getElem_cons (show i + 1 < s.length by omega), List.drop_eq_getElem_cons (show i + 1 + 1 < s.length by omega)]
  have g0 : s[i]?.getD 0 = s[i] := by simp [show i < s.length from by omega]
  have g1 : s[i + 1]?.getD 0 = s[i + 1] := by simp [show i + 1 < s.length from by omega]
  have g2 : s[i + 2]?.getD 0 = s[i + 2] := by simp [show i + 2 < s.length from by omega]
  unfold k3
  rw [g0, g1, g2]
  rfl

theorem extract_eq (s : List UInt8) (i m : Nat) (hi : i + 3 ≤ s.length) (hm : m + 3 ≤ s.length) : ((⟨s.toArray⟩ : ByteArray).extract i (i + 3) = (⟨s.toArray⟩ : ByteArray).extract m (m + 3)) ↔ k3 s i = k3 s m := by
  rw [extract_k3 s i hi, extract_k3 s m hm]
  constructor
  · intro h
    have := congrArg ByteArray.data h
    simp at this
    exact Prod.ext this.1 (Prod.ext this.2.1 this.2.2)
  · intro h; rw [h]

end Go.Proofs.YtalopgbkjgjppaaGreatDoor
