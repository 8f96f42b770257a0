/- Part of a proof: Ck, Ch. -/
import Derived.Test.YtalopgbkjgjppaaGreatDoorGAp
import Derived.Maps.OwnSet
import Derived.Maps.OwnOps
import Derived.Maps.Views
import Derived.DeepKeys4
import Derived.ProofKit
import Derived.Laws.IdiomStrings
/- Keys of three bytes: the map of the chains, and what it holds. -/
namespace Go.Proofs.YtalopgbkjgjppaaGreatDoor
open Go.RowKit Go.Cas Go.Maps

theorem Tryz.laidK : laidOutB Tryz.prog = true := by kernel_rfl
def kl (K : UInt8 × UInt8 × UInt8) : Lit := .string (keyBytes [.int .u8 K.1.toNat, .int .u8 K.2.1.toNat, .int .u8 K.2.2.toNat])

/-- The three bytes at a place. -/
def k3 (s : List UInt8) (j : Nat) : UInt8 × UInt8 × UInt8 := (s[j]?.getD 0, s[j + 1]?.getD 0, s[j + 2]?.getD 0)

/-- The last place ahead of i with these three bytes. -/
def lastK (s : List UInt8) (K : UInt8 × UInt8 × UInt8) : Nat → Option Nat
  | 0 => none
  | i + 1 => if i + 3 ≤ s.length ∧ k3 s i = K then some i else lastK s K i

def prevO (s : List UInt8) (j : Nat) : Int := if j + 3 ≤ s.length then (match lastK s (k3 s j) j with | some p => (p : Int) | none => -1) else -1

abbrev dI {H : Type} (n : Int) : DataW H := .lit (.int .i64 n)

/-- The map behind so many places. -/
def mapD (H : Type) (s : List UInt8) : Nat → DataW H
  | 0 => .map []
  | i + 1 => if i + 3 ≤ s.length then (mapD H s i).put (kl (k3 s i)) (dI i) else mapD H s i

end Go.Proofs.YtalopgbkjgjppaaGreatDoor

/- The walks of the finder of chains: New, Place, enter. -/
namespace Go.Proofs.YtalopgbkjgjppaaGreatDoor
open Go.RowKit Go.Cas Go.Maps
theorem map_keeps {H : Type} {P : Program} {k : TypeId} {R : Value → Option (DataW H × List MemPlace)} {S : Nat → Prop} {w w' : World} {b n : Nat} {D : DataW H} (h : w.ownsMap P k R b n D) (K : Keeps S w w') (hb : ¬ S b) : w'.ownsMap P k R b n D := by
  have hlt := h.lt
  obtain ⟨es, clock, h1, r⟩ := h
  exact ⟨es, clock, (K.block b hlt hb).trans h1, r⟩

/-- A finder: its text, window and cut; the place that is looked at next; so many places have been entered. -/
structure Fin (w : World) (p : Nat) (s : List UInt8) (W C : Int) (pl i mb : Nat) (q : Option Addr) (cap : Nat) : Prop where
  blk : Blk w p #[.string ⟨s.toArray⟩, i6 W, i6 C, i6 pl, .map (some mb), .slice q i cap] 160
  map : w.ownsMap Tryz.prog 22 (plainElem (H := Unit) Tryz.prog 3) mb i (mapD Unit s i)
  own : Sl 3 1 w q cap i ((List.range i).map fun j => i6 (prevO s j))
  ne1 : mb ≠ p
  ne2 : ¬ sblk q p
  ne3 : ¬ sblk q mb

/-- The blocks of a finder. -/
def finF (p mb : Nat) (q : Option Addr) : Nat → Prop := fun k => k = p ∨ k = mb ∨ sblk q k

theorem Fin.keeps {S : Nat → Prop} {w w' : World} {p : Nat} {s : List UInt8} {W C : Int} {pl i mb cap : Nat} {q : Option Addr} (h : Fin w p s W C pl i mb q cap) (k : Keeps S w w') (hn : ∀ b, finF p mb q b → ¬ S b) : Fin w' p s W C pl i mb q cap :=
  ⟨h.blk.keeps k (hn _ (.inl rfl)), map_keeps h.map k (hn _ (.inr (.inl rfl))), h.own.keeps k fun b hb => hn b (.inr (.inr hb)), h.ne1, h.ne2, h.ne3⟩

theorem Fin.lt {w : World} {p : Nat} {s : List UInt8} {W C : Int} {pl i mb cap : Nat} {q : Option Addr} (h : Fin w p s W C pl i mb q cap) : ∀ b, finF p mb q b → b < w.heap.size := by
  rintro b (rfl | rfl | e)
  · exact h.blk.lt
  · exact h.map.lt
  · exact h.own.lt b e

end Go.Proofs.YtalopgbkjgjppaaGreatDoor
