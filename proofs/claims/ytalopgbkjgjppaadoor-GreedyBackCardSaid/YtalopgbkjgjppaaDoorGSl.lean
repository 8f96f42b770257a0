/- Part of a proof: Sl, Ck. -/
import Derived.Test.YtalopgbkjgjppaaDoorGAp
import Derived.Test.YtalopgbkjgjppaaDoorGWin
import Derived.Maps.OwnSet
import Derived.Maps.OwnOps
import Derived.Maps.Views
import Derived.DeepKeys4
import Derived.ProofKit
/- A slice that owns its row, of whatever element; the step of an append. -/
namespace Go.Proofs.YtalopgbkjgjppaaDoor
open Go.RowKit Go.Cas
abbrev Bys (w : World) (q : Option Addr) (cap : Nat) (bs : List UInt8) : Prop := Sl 5 1 w q cap bs.length (bs.map b8)

theorem bys_at {w : World} {g cap : Nat} {bs : List UInt8} (h : Bys w (some ⟨g, 0, none⟩) cap bs) (k : Nat) (hk : k < bs.length) : w.cell? ⟨g, k, none⟩ = some (b8 bs[k]) := by
  rw [h.cell k (by omega), b8_get bs k hk]

end Go.Proofs.YtalopgbkjgjppaaDoor

/- Keys of three bytes: the map of the chains, and what it holds. -/
namespace Go.Proofs.YtalopgbkjgjppaaDoor
open Go.RowKit Go.Cas Go.Maps

theorem Tryd.laidK : laidOutB Tryd.prog = true := by kernel_rfl
theorem Tryd.keyed : Keyed Tryd.prog 112 := Keyed.of_law (deep_law_laid Tryd.laidK (m := 5) (by decide) (of_decide_eq_true (by kernel_rfl)) (by kernel_rfl) (by kernel_rfl))

abbrev kv (K : UInt8 × UInt8 × UInt8) : Value := .agg #[b8 K.1, b8 K.2.1, b8 K.2.2]
def kl (K : UInt8 × UInt8 × UInt8) : Lit := .string (keyBytes [.int .u8 K.1.toNat, .int .u8 K.2.1.toNat, .int .u8 K.2.2.toNat])

theorem u8_wf (x : UInt8) : (Lit.int .u8 (x.toNat : Int)).wf = true := by
  have := x.toNat_lt
  simp [Lit.wf, IntKind.min, IntKind.max, IntKind.signed, IntKind.bits]
  omega

theorem keyOf_kv (K : UInt8 × UInt8 × UInt8) : keyOf Tryd.prog 112 (kv K) = some (kl K) := by
  have h1 : Tryd.prog.keyType 112 = true := by kernel_rfl
  have h2 : Tryd.prog.cellsOf 112 = 3 := by kernel_rfl
  have h3 : Tryd.prog.cellsOf 5 = 1 := by kernel_rfl
  obtain ⟨n, hn⟩ : ∃ n, Tryd.prog.types.size = n + 1 := ⟨Tryd.prog.types.size - 1, by kernel_rfl⟩
  unfold keyOf
  simp only [Tryd.underlying112, h1, Value.formed, h2, hn]
  simp [Value.cells, Program.keyLits, Tryd.underlying112, Tryd.underlying5, h2, h3, u8_wf, kl, List.range_succ, List.mapM_cons]

theorem kl_inj {K K' : UInt8 × UInt8 × UInt8} (h : kl K = kl K') : K = K' := by
  have := Tryd.keyed.inj (keyOf_kv K) (h ▸ keyOf_kv K')
  obtain ⟨a, b, c⟩ := K
  obtain ⟨a', b', c'⟩ := K'
  simp at this
  have e : ∀ x y : UInt8, (x.toNat : Int) = y.toNat → x = y := fun x y h => UInt8.toNat_inj.1 (by omega)
  simp [e _ _ this.1, e _ _ this.2.1, e _ _ this.2.2]

theorem kl_key (K : UInt8 × UInt8 × UInt8) : WideAt.IsKeyLit (kl K) := Tryd.keyed.key (keyOf_kv K)

/-- The three bytes at a place. -/
def k3 (s : List UInt8) (j : Nat) : UInt8 × UInt8 × UInt8 := (s[j]?.getD 0, s[j + 1]?.getD 0, s[j + 2]?.getD 0)

/-- The last place ahead of i with these three bytes. -/
def lastK (s : List UInt8) (K : UInt8 × UInt8 × UInt8) : Nat → Option Nat
  | 0 => none
  | i + 1 => if i + 3 ≤ s.length ∧ k3 s i = K then some i else lastK s K i

def prevO (s : List UInt8) (j : Nat) : Int := if j + 3 ≤ s.length then (match lastK s (k3 s j) j with | some p => (p : Int) | none => -1) else -1

abbrev dI {H : Type} (n : Int) : DataW H := .lit (.int .i64 n)

/-- The map behind so many places. -/
def mapD (H : Type) (s : List UInt8) : Nat → DataW H
  | 0 => .map []
  | i + 1 => if i + 3 ≤ s.length then (mapD H s i).put (kl (k3 s i)) (dI i) else mapD H s i

theorem mapD_isMap (H : Type) (s : List UInt8) : ∀ i, IsMap (mapD H s i)
  | 0 => isMap_empty
  | i + 1 => by
    unfold mapD
    split
    · exact (mapD_isMap H s i).put _ _
    · exact mapD_isMap H s i

theorem mapD_has (H : Type) (s : List UInt8) (K : UInt8 × UInt8 × UInt8) : ∀ i, Maps.has (mapD H s i) (kl K) = (lastK s K i).isSome
  | 0 => rfl
  | i + 1 => by
    unfold mapD lastK
    by_cases hl : i + 3 ≤ s.length
    · rw [if_pos hl]
      by_cases hk : k3 s i = K
      · rw [if_pos ⟨hl, hk⟩, ← hk, has_put_same (mapD_isMap H s i) (kl_key _)]; rfl
      · rw [if_neg (fun h => hk h.2), has_put_other (fun h => hk (kl_inj h).symm), mapD_has H s K i]
    · rw [if_neg hl, if_neg (fun h => hl h.1), mapD_has H s K i]

theorem mapD_at (H : Type) (s : List UInt8) (K : UInt8 × UInt8 × UInt8) (z : DataW H) : ∀ i, (mapD H s i).atKey (kl K) z = (match lastK s K i with | some p => dI p | none => z)
  | 0 => rfl
  | i + 1 => by
    unfold mapD lastK
    by_cases hl : i + 3 ≤ s.length
    · rw [if_pos hl]
      by_cases hk : k3 s i = K
      · rw [if_pos ⟨hl, hk⟩, ← hk, atKey_put_same (mapD_isMap H s i) (kl_key _)]
      · rw [if_neg (fun h => hk h.2), atKey_put_other (fun h => hk (kl_inj h).symm), mapD_at H s K z i]
    · rw [if_neg hl, if_neg (fun h => hl h.1), mapD_at H s K z i]

theorem lastK_lt (s : List UInt8) (K : UInt8 × UInt8 × UInt8) : ∀ i p, lastK s K i = some p → p < i ∧ p + 3 ≤ s.length ∧ k3 s p = K
  | 0, _, h => by cases h
  | i + 1, p, h => by
    unfold lastK at h
    split at h
    · rename_i hc; cases h; exact ⟨by omega, hc.1, hc.2⟩
    · obtain ⟨h1, h2⟩ := lastK_lt s K i p h; exact ⟨by omega, h2⟩

/-- Between the last place and here there is none. -/
theorem lastK_none (s : List UInt8) (K : UInt8 × UInt8 × UInt8) : ∀ i j, (∀ p, lastK s K i = some p → p < j) → j < i → ¬ (j + 3 ≤ s.length ∧ k3 s j = K)
  | 0, _, _, h => by omega
  | i + 1, j, h, hj => by
    unfold lastK at h
    split at h
    · rename_i hc
      have := h i rfl
      intro hh
      omega
    · rename_i hc
      by_cases e : j = i
      · subst e; exact hc
      · exact lastK_none s K i j h (by omega)

theorem prevO_lt (s : List UInt8) (j : Nat) : -1 ≤ prevO s j ∧ prevO s j < j := by
  unfold prevO
  split
  · cases h : lastK s (k3 s j) j with
    | none => dsimp only; omega
    | some p => have := (lastK_lt s _ _ _ h).1; dsimp only; omega
  · omega
end Go.Proofs.YtalopgbkjgjppaaDoor
