/- Package credit: a credit in memory. -/
import Derived.Test.YtomegcicfpmefaaFixInt
import Derived.Test.YtomegcicfpmefaaFixAdd
import Derived.Test.YtomegcicfpmefaaChg
import Derived.Maps.OwnOps
import Derived.Maps.OwnSet
import Derived.Maps.Views
namespace Go.Proofs.Ytomegcicfpmefaa
open Go.RowKit Go.Maps
set_option linter.unusedVariables false

/-- How a goroutine's sums read. -/
def sumR : Value → Option (DataW Unit × List MemPlace)
  | .agg cs => match cs.toList with
    | [.int .i64 a, .int .i64 s] => some (.agg [.lit (.int .i64 a), .lit (.int .i64 s)], [])
    | _ => none
  | _ => none
theorem sumR_mk (a s : Int) : sumR (.agg #[.int .i64 a, .int .i64 s]) = some (.agg [.lit (.int .i64 a), .lit (.int .i64 s)], []) := rfl
theorem sumR_inv {v : Value} {a s : Int} {ps : List MemPlace} (h : sumR v = some (.agg [.lit (.int .i64 a), .lit (.int .i64 s)], ps)) : v = .agg #[.int .i64 a, .int .i64 s] := by
  unfold sumR at h
  split at h
  · rename_i cs
    split at h
    · rename_i x y hcs
      simp at h
      obtain ⟨⟨rfl, rfl⟩, -⟩ := h
      congr 1
      exact Array.ext' (by simpa using hcs)
    · cases h
  · cases h

def zD : DataW Unit := .agg [.lit (.int .i64 0), .lit (.int .i64 0)]
def dOf (p : Int × Int) : DataW Unit := .agg [.lit (.int .i64 p.1), .lit (.int .i64 p.2)]
def I64 (a : Int) : Prop := -9223372036854775808 ≤ a ∧ a ≤ 9223372036854775807

/-- Block b is a credit: its ratio, its map in block mb of at most n sums, which are f, its bank. -/
structure Cr (w : World) (b mb : Nat) (r bank : Int) (f : Int → Int × Int) (n : Nat) : Prop where
  box : Box w b #[.int .i64 r, .map (some mb), .int .i64 bank] 44
  map : ∃ D, w.ownsMap Try.prog 3 sumR mb n D ∧ IsMap D ∧ ∀ g : Int, (Lit.int .i64 g).wf = true → D.atKey (.int .i64 g) zD = dOf (f g)
  bd : ∀ g, I64 (f g).1 ∧ I64 (f g).2
  rb : I64 r
  bb : I64 bank

theorem map_lt {w : World} {k : TypeId} {R : Value → Option (DataW Unit × List MemPlace)} {b n : Nat} {D : DataW Unit} (h : w.ownsMap Try.prog k R b n D) : b < w.heap.size := World.ownsMap.lt h
theorem Cr.ne {w : World} {b mb n : Nat} {r bank : Int} {f : Int → Int × Int} (h : Cr w b mb r bank f n) : b ≠ mb := by
  rintro rfl
  obtain ⟨D, ⟨es, c, hb, _⟩, _⟩ := h.map
  have := h.box
  unfold Box at this
  rw [hb] at this; cases this

theorem map_chg {F : Nat → Prop} {w w' : World} {k : TypeId} {R : Value → Option (DataW Unit × List MemPlace)} {b n : Nat} {D : DataW Unit} (h : w.ownsMap Try.prog k R b n D) (c : Chg F w w') (hF : ¬ F b) : w'.ownsMap Try.prog k R b n D := by
  have hlt := map_lt h
  obtain ⟨es, cl, hb, h1⟩ := h
  exact ⟨es, cl, (c.block b hlt hF).trans hb, h1⟩

theorem Cr.chg {F : Nat → Prop} {w w' : World} {b mb n : Nat} {r bank : Int} {f : Int → Int × Int} (h : Cr w b mb r bank f n) (c : Chg F w w') (h1 : ¬ F b) (h2 : ¬ F mb) : Cr w' b mb r bank f n := by
  obtain ⟨D, hD, h3⟩ := h.map
  exact ⟨h.box.chg c h1, ⟨D, map_chg hD c h2, h3⟩, h.bd, h.rb, h.bb⟩
theorem Cr.ex {w w' : World} {b mb n : Nat} {r bank : Int} {f : Int → Int × Int} (h : Cr w b mb r bank f n) (c : Ex w w') : Cr w' b mb r bank f n := h.chg (c.chg fun _ => False) id id

theorem keyed : Keyed Try.prog 3 := int_keyed Try.underlying3

/-- What a look-up gives. -/
theorem Cr.look {w : World} {b mb n : Nat} {r bank : Int} {f : Int → Int × Int} (h : Cr w b mb r bank f n) (g : Int) (hg : (Lit.int .i64 g).wf = true) :
    (Instr.lookup 42 (.map (some mb)) (.int .i64 g) false).run Try.prog w = .ok (.agg #[.int .i64 (f g).1, .int .i64 (f g).2]) w := by
  obtain ⟨D, hD, -, h3⟩ := h.map
  have hz : (zeroValue 46).run Try.prog w = .ok (.agg #[.int .i64 0, .int .i64 0]) w := by kernel_rfl
  obtain ⟨v, ps, hrun, hv⟩ := hD.lookup keyed Try.underlying42 hz (sumR_mk 0 0) (keyOf_int_mk Try.underlying3 hg)
  have e := h3 g hg
  unfold zD at e
  rw [e] at hv
  rw [hrun, sumR_inv hv]

def putF (f : Int → Int × Int) (g : Int) (p : Int × Int) : Int → Int × Int := fun x => if x = g then p else f x

/-- What a store leaves. -/
theorem Cr.upd {w : World} {b mb n : Nat} {r bank : Int} {f : Int → Int × Int} (h : Cr w b mb r bank f n) (g : Int) (hg : (Lit.int .i64 g).wf = true) (a s : Int) (ha : I64 a) (hs : I64 s) (hn : n ≤ 1000000) :
    ∃ w', (Instr.mapUpdate 42 (.map (some mb)) (.int .i64 g) (.agg #[.int .i64 a, .int .i64 s])).run Try.prog w = .ok () w' ∧ Cr w' b mb r bank (putF f g (a, s)) (n + 1) ∧ Chg (fun k => k = mb) w w' := by
  obtain ⟨D, hD, hI, h3⟩ := h.map
  have hkl := keyOf_int_mk Try.underlying3 hg
  obtain ⟨w', hrun, hown, hgr⟩ := hD.update keyed Try.underlying42 (by unfold maxLen; omega) hkl (sumR_mk a s)
  have hc : Chg (fun k => k = mb) w w' := Chg.grown hgr (fun i hi => by cases hi; rfl)
  refine ⟨w', hrun, ⟨h.box.chg hc h.ne, ⟨_, hown, hI.put _ _, ?_⟩, ?_, h.rb, h.bb⟩, hc⟩
  · intro x hx
    unfold putF
    by_cases e : x = g
    · subst e
      rw [if_pos rfl]
      exact atKey_put_same hI (show WideAt.IsKeyLit (.int .i64 x) from trivial) _ _
    · rw [if_neg e, ← h3 x hx]
      exact atKey_put_other (by intro e2; cases e2; exact e rfl) _ _
  · intro x
    unfold putF
    by_cases e : x = g
    · rw [if_pos e]; exact ⟨ha, hs⟩
    · rw [if_neg e]; exact h.bd x

end Go.Proofs.Ytomegcicfpmefaa
