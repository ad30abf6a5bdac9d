/- The document's fits. -/
import Derived.Test.YtmlobpapjfkbmaaK5
namespace Go.Proofs.Ytmlobpapjfkbmaa.C15
open Go.RowKit
set_option linter.unusedVariables false
set_option maxRecDepth 20000
set_option linter.unusedSimpArgs false

def allocs (w : World) (os : List Obj) : World := os.foldl World.alloc w
theorem allocs_ex : ∀ (os : List Obj) (w : World), Ex w (allocs w os)
  | [], w => Ex.refl w
  | o :: os, w => (Ex.made w o).trans (allocs_ex os _)
theorem allocs_at : ∀ (os : List Obj) (w : World) (i : Nat) (o : Obj), os[i]? = some o → (allocs w os).heap[w.heap.size + i]? = some o
  | [], w, i, o, h => by simp at h
  | o' :: os, w, 0, o, h => by
    have e : o' = o := by simpa using h
    subst e
    have := (allocs_ex os (w.alloc o')).block w.heap.size (by simp)
    show (allocs (w.alloc o') os).heap[w.heap.size]? = _
    rw [this]
    exact heap_alloc_new _ _
  | o' :: os, w, i + 1, o, h => by
    have := allocs_at os (w.alloc o') i o (by simpa using h)
    rw [show (w.alloc o').heap.size + i = w.heap.size + (i + 1) by simp; omega] at this
    exact this

/-- The document's number of a kind. -/
def rk : Nat → Nat
  | 0 => 0
  | 1 => 6
  | 2 => 1
  | 3 => 2
  | 4 => 3
  | 5 => 5
  | _ => 4

set_option maxRecDepth 20000 in
set_option maxHeartbeats 3200000 in
theorem rfits_any (w : World) (g f s v : Int) (c : Nat) (hc : c < 7) (t : Bool) (ht : decide (0 ≤ v ∧ v < lim g f s c) = t) :
    Calls Try.prog 51 #[.int .i64 ((rk c : Nat) : Int), .int .i64 v, .int .i64 g, .int .i64 f, .int .i64 s] w fun e w' => e = .returned (.bool t) ∧ Ex w w' := by
  have fin : ∀ d : Int, lim g f s c = d → (0 ≤ v → v < d → t = true) ∧ (0 ≤ v → ¬ v < d → t = false) ∧ (¬ 0 ≤ v → t = false) := by
    intro d hd
    rw [hd] at ht
    subst ht
    refine ⟨fun a b => by simp [a, b], fun a b => by simp [b], fun a => by simp [a]⟩
  by_cases h1 : 0 ≤ v
  · match c, hc with
    | 0, _ =>
      obtain ⟨k1, k2, -⟩ := fin 1 rfl
      clear ht fin
      rw [show ((rk 0 : Nat) : Int) = 0 from rfl]
      by_cases h2 : v < 1
      · obtain rfl := k1 h1 h2
        go_enter Try.func51, Try.ntmps51
        go_wp2_with fail
        go_ret
        exact ⟨rfl, Ex.made _ _⟩
      · obtain rfl := k2 h1 h2
        go_enter Try.func51, Try.ntmps51
        go_wp2_with fail
        go_ret
        exact ⟨rfl, Ex.made _ _⟩
    | 1, _ =>
      obtain ⟨k1, k2, -⟩ := fin 256 rfl
      clear ht fin
      rw [show ((rk 1 : Nat) : Int) = 6 from rfl]
      by_cases h2 : v < 256
      · obtain rfl := k1 h1 h2
        go_enter Try.func51, Try.ntmps51
        go_wp2_with fail
        go_ret
        exact ⟨rfl, Ex.made _ _⟩
      · obtain rfl := k2 h1 h2
        go_enter Try.func51, Try.ntmps51
        go_wp2_with fail
        go_ret
        exact ⟨rfl, Ex.made _ _⟩
    | 2, _ =>
      obtain ⟨k1, k2, -⟩ := fin 16 rfl
      clear ht fin
      rw [show ((rk 2 : Nat) : Int) = 1 from rfl]
      by_cases h2 : v < 16
      · obtain rfl := k1 h1 h2
        go_enter Try.func51, Try.ntmps51
        go_wp2_with fail
        go_ret
        exact ⟨rfl, Ex.made _ _⟩
      · obtain rfl := k2 h1 h2
        go_enter Try.func51, Try.ntmps51
        go_wp2_with fail
        go_ret
        exact ⟨rfl, Ex.made _ _⟩
    | 3, _ =>
      obtain ⟨k1, k2, -⟩ := fin g rfl
      clear ht fin
      rw [show ((rk 3 : Nat) : Int) = 2 from rfl]
      by_cases h2 : v < g
      · obtain rfl := k1 h1 h2
        go_enter Try.func51, Try.ntmps51
        go_wp2_with fail
        go_ret
        exact ⟨rfl, Ex.made _ _⟩
      · obtain rfl := k2 h1 h2
        go_enter Try.func51, Try.ntmps51
        go_wp2_with fail
        go_ret
        exact ⟨rfl, Ex.made _ _⟩
    | 4, _ =>
      obtain ⟨k1, k2, -⟩ := fin f rfl
      clear ht fin
      rw [show ((rk 4 : Nat) : Int) = 3 from rfl]
      by_cases h2 : v < f
      · obtain rfl := k1 h1 h2
        go_enter Try.func51, Try.ntmps51
        go_wp2_with fail
        go_ret
        exact ⟨rfl, Ex.made _ _⟩
      · obtain rfl := k2 h1 h2
        go_enter Try.func51, Try.ntmps51
        go_wp2_with fail
        go_ret
        exact ⟨rfl, Ex.made _ _⟩
    | 5, _ =>
      obtain ⟨k1, k2, -⟩ := fin s rfl
      clear ht fin
      rw [show ((rk 5 : Nat) : Int) = 5 from rfl]
      by_cases h2 : v < s
      · obtain rfl := k1 h1 h2
        go_enter Try.func51, Try.ntmps51
        go_wp2_with fail
        go_ret
        exact ⟨rfl, Ex.made _ _⟩
      · obtain rfl := k2 h1 h2
        go_enter Try.func51, Try.ntmps51
        go_wp2_with fail
        go_ret
        exact ⟨rfl, Ex.made _ _⟩
    | 6, _ =>
      obtain ⟨k1, k2, -⟩ := fin 32 rfl
      clear ht fin
      rw [show ((rk 6 : Nat) : Int) = 4 from rfl]
      by_cases h2 : v < 32
      · obtain rfl := k1 h1 h2
        go_enter Try.func51, Try.ntmps51
        go_wp2_with fail
        go_ret
        exact ⟨rfl, Ex.made _ _⟩
      · obtain rfl := k2 h1 h2
        go_enter Try.func51, Try.ntmps51
        go_wp2_with fail
        go_ret
        exact ⟨rfl, Ex.made _ _⟩
  · obtain ⟨-, -, k3⟩ := fin _ rfl
    obtain rfl := k3 h1
    clear ht fin
    go_enter Try.func51, Try.ntmps51
    go_wp2_with fail
    go_ret
    exact ⟨rfl, Ex.refl _⟩

end Go.Proofs.Ytmlobpapjfkbmaa.C15
