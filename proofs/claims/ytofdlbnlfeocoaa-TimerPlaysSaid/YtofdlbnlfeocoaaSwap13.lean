/- Package timer: Swap. -/
import Derived.Test.YtofdlbnlfeocoaaTime13
import Derived.Great.Walk
namespace Go.Proofs.Ytofdlbnlfeocoaa
open Go.RowKit
set_option linter.unusedVariables false

/-- Three cells put. -/
def set3 (w : World) (g i : Nat) (p : Int × Int × Int) : World := ((w.setCell ⟨g, i * 3, none⟩ (.int .i64 p.1)).setCell ⟨g, i * 3 + 1, none⟩ (.int .i64 p.2.1)).setCell ⟨g, i * 3 + 2, none⟩ (.int .i64 p.2.2)

set_option maxHeartbeats 3200000 in
theorem swap_core (w : World) (g n cap i j : Nat) (p q : Int × Int × Int) (hg : g < w.heap.size) (hi : (i : Int) < (n : Nat)) (hj : (j : Int) < (n : Nat))
    (x0 : w.cell? ⟨g, i * 3, none⟩ = some (.int .i64 p.1)) (x1 : w.cell? ⟨g, i * 3 + 1, none⟩ = some (.int .i64 p.2.1)) (x2 : w.cell? ⟨g, i * 3 + 2, none⟩ = some (.int .i64 p.2.2))
    (y0 : w.cell? ⟨g, j * 3, none⟩ = some (.int .i64 q.1)) (y1 : w.cell? ⟨g, j * 3 + 1, none⟩ = some (.int .i64 q.2.1)) (y2 : w.cell? ⟨g, j * 3 + 2, none⟩ = some (.int .i64 q.2.2))
    (fr : ∀ k, w.frozen? ⟨g, k, none⟩ = false) (hne : i ≠ j) :
    Calls Try.prog 71 #[.slice (some ⟨g, 0, none⟩) n cap, .int .i64 i, .int .i64 j] w fun e w' => e = .returned (.tuple #[]) ∧ w' = (set3 (set3 w g i q) g j p).drew := by
  obtain ⟨p1, p2, p3⟩ := p
  obtain ⟨q1, q2, q3⟩ := q
  dsimp only at x0 x1 x2 y0 y1 y2
  have f0 := fr (i * 3)
  have f1 := fr (i * 3 + 1)
  have f2 := fr (i * 3 + 2)
  have g0 := fr (j * 3)
  have g1 := fr (j * 3 + 1)
  have g2 := fr (j * 3 + 2)
  clear fr
  have n1 : ¬ i = j := hne
  have n2 : ¬ j = i := fun e => hne e.symm
  have m1 : ¬ i * 3 = j * 3 + 1 := by omega
  have m2 : ¬ i * 3 = j * 3 + 2 := by omega
  have m3 : ¬ i * 3 + 1 = j * 3 := by omega
  have m4 : ¬ i * 3 + 2 = j * 3 := by omega
  have m5 : ¬ i * 3 + 1 = j * 3 + 2 := by omega
  have m6 : ¬ i * 3 + 2 = j * 3 + 1 := by omega
  have k1 : ¬ j * 3 = i * 3 + 1 := by omega
  have k2 : ¬ j * 3 = i * 3 + 2 := by omega
  have k3 : ¬ j * 3 + 1 = i * 3 := by omega
  have k4 : ¬ j * 3 + 2 = i * 3 := by omega
  have k5 : ¬ j * 3 + 1 = i * 3 + 2 := by omega
  have k6 : ¬ j * 3 + 2 = i * 3 + 1 := by omega
  clear hne
  go_enter Try.func71, Try.ntmps71
  go_upto_region 0 with fail
  go_region
  exact Go.Great.bodyPost_end0 rfl rfl ⟨rfl, rfl⟩

set_option maxHeartbeats 3200000 in
theorem swap_same (w : World) (g n cap i : Nat) (p : Int × Int × Int) (hg : g < w.heap.size) (hi : (i : Int) < (n : Nat))
    (x0 : w.cell? ⟨g, i * 3, none⟩ = some (.int .i64 p.1)) (x1 : w.cell? ⟨g, i * 3 + 1, none⟩ = some (.int .i64 p.2.1)) (x2 : w.cell? ⟨g, i * 3 + 2, none⟩ = some (.int .i64 p.2.2))
    (fr : ∀ k, w.frozen? ⟨g, k, none⟩ = false) :
    Calls Try.prog 71 #[.slice (some ⟨g, 0, none⟩) n cap, .int .i64 i, .int .i64 i] w fun e w' => e = .returned (.tuple #[]) ∧ w' = (set3 (set3 w g i p) g i p).drew := by
  obtain ⟨p1, p2, p3⟩ := p
  dsimp only at x0 x1 x2
  have f0 := fr (i * 3)
  have f1 := fr (i * 3 + 1)
  have f2 := fr (i * 3 + 2)
  clear fr
  go_enter Try.func71, Try.ntmps71
  go_upto_region 0 with fail
  go_region
  exact Go.Great.bodyPost_end0 rfl rfl ⟨rfl, rfl⟩

def zz : Int × Int × Int := (0, 0, 0)
def swp (l : List (Int × Int × Int)) (i j : Nat) : List (Int × Int × Int) := (l.set i (l.getD j zz)).set j (l.getD i zz)
theorem swp_length (l : List (Int × Int × Int)) (i j : Nat) : (swp l i j).length = l.length := by simp [swp]

theorem Row3.put {w : World} {base g cap n : Nat} {l : List (Int × Int × Int)} (h : Row3 w base (.slice (some ⟨g, 0, none⟩) n cap) l) (hn : n = l.length) (k : Nat) (p : Int × Int × Int) :
    Row3 (set3 w g k p) base (.slice (some ⟨g, 0, none⟩) n cap) (l.set k p) := by
  subst hn
  unfold Row3 at *
  rw [cells3_set, List.length_set]
  exact (World.ownsRow.stored (World.ownsRow.stored (World.ownsRow.stored h _ _).1 _ _).1 _ _).1
theorem Chg.set3 (w : World) (g k : Nat) (p : Int × Int × Int) : Chg (fun i => i = g) w (set3 w g k p) :=
  ((Chg.cell (F := fun i => i = g) w ⟨g, k * 3, none⟩ _ rfl).trans (Chg.cell (F := fun i => i = g) _ ⟨g, k * 3 + 1, none⟩ _ rfl) (fun _ _ h => h)).trans (Chg.cell (F := fun i => i = g) _ ⟨g, k * 3 + 2, none⟩ _ rfl) (fun _ _ h => h)

theorem swap_at {w : World} {base g cap : Nat} {l : List (Int × Int × Int)} (h : Row3 w base (.slice (some ⟨g, 0, none⟩) l.length cap) l) (hg : g < w.heap.size) (i j : Nat) (hi : i < l.length) (hj : j < l.length) :
    Calls Try.prog 71 #[.slice (some ⟨g, 0, none⟩) l.length cap, .int .i64 i, .int .i64 j] w fun e w' => e = .returned (.tuple #[]) ∧ Row3 w' base (.slice (some ⟨g, 0, none⟩) l.length cap) (swp l i j) ∧ Chg (fun i => i = g) w w' := by
  obtain ⟨a0, a1, a2⟩ := cells3_at l i hi
  obtain ⟨b0, b1, b2⟩ := cells3_at l j hj
  have key : Row3 (set3 (set3 w g i l[j]) g j l[i]).drew base (.slice (some ⟨g, 0, none⟩) l.length cap) (swp l i j) ∧ Chg (fun i => i = g) w (set3 (set3 w g i l[j]) g j l[i]).drew := by
    constructor
    · have := (h.put rfl i l[j]).put (by simp) j l[i]
      unfold swp
      rw [show l.getD j zz = l[j] by simp [hj], show l.getD i zz = l[i] by simp [hi]]
      exact World.ownsRow.drew this
    · exact ((Chg.set3 w g i l[j]).trans (Chg.set3 _ g j l[i]) (fun _ _ h => h)).drew1
  by_cases hij : i = j
  · subst hij
    refine (swap_same w g l.length cap i l[i] hg (by omega) (h.cell _ _ a0) (h.cell _ _ a1) (h.cell _ _ a2) (fun k => World.ownsRow.frozenAt h k)).mono ?_
    rintro e w' ⟨rfl, rfl⟩
    exact ⟨rfl, key⟩
  · refine (swap_core w g l.length cap i j l[i] l[j] hg (by omega) (by omega) (h.cell _ _ a0) (h.cell _ _ a1) (h.cell _ _ a2) (h.cell _ _ b0) (h.cell _ _ b1) (h.cell _ _ b2) (fun k => World.ownsRow.frozenAt h k) hij).mono ?_
    rintro e w' ⟨rfl, rfl⟩
    exact ⟨rfl, key⟩

end Go.Proofs.Ytofdlbnlfeocoaa
