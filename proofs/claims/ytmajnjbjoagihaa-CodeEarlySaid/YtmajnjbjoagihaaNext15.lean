/- Package code: the reader's next. -/
import Derived.Test.YtmajnjbjoagihaaWrong15
import Derived.StillTailTactics
import Derived.Deep.QuietTactic
import Derived.BigQuiet
import Derived.WalkLawsBesides
namespace Go.Proofs.Ytmajnjbjoagihaa
open Go.RowKit
set_option linter.unusedVariables false
set_option linter.unusedSimpArgs false

/-- Bytes in memory, not to be written by this call. -/
structure Bs (w : World) (v : Value) (bs : List Int) : Prop where
  len : bs.length ≤ 100000
  ok : ∀ x ∈ bs, 0 ≤ x ∧ x < 256
  is : ((∃ a c, v = .slice a 0 c) ∧ bs = []) ∨ ∃ g o cap, v = .slice (some ⟨g, o, none⟩) bs.length cap ∧ g < w.heap.size ∧ bs.length ≤ cap ∧ ∀ i (h : i < bs.length), w.cell? ⟨g, o + i, none⟩ = some (.int .u8 bs[i])

theorem Bs.ex {w w' : World} {v : Value} {bs : List Int} (h : Bs w v bs) (x : Ex w w') : Bs w' v bs := by
  refine ⟨h.len, h.ok, ?_⟩
  rcases h.is with h1 | ⟨g, o, cap, h1, h2, h3, h4⟩
  · exact .inl h1
  · exact .inr ⟨g, o, cap, h1, Nat.lt_of_lt_of_le h2 x.size, h3, fun i hi => cell_later x (h4 i hi)⟩
theorem Bs.val {w : World} {v : Value} {bs : List Int} (h : Bs w v bs) : ∃ a cap, v = .slice a bs.length cap := by
  rcases h.is with ⟨⟨a, c, h1⟩, h2⟩ | ⟨g, o, cap, h1, -⟩
  · exact ⟨a, c, by rw [h1, h2]; rfl⟩
  · exact ⟨_, cap, h1⟩

theorem Bs.gl {w : World} {g o n cap : Nat} {bs : List Int} (h : Bs w (.slice (some ⟨g, o, none⟩) n cap) bs) (h0 : 0 < bs.length) : g < w.heap.size := by
  rcases h.is with ⟨-, h2⟩ | ⟨g', o', cap', h1, h2, -⟩
  · subst h2; simp at h0
  · cases h1; exact h2

def badV (n : Int) : Value := .iface 48 (.agg #[.int .i64 n])

def thrown (n : Nat) : Ending := .panicked [{ v := badV n, recovered := false }]

theorem Bs.at {w : World} {a : Option Addr} {n cap : Nat} {bs : List Int} (h : Bs w (.slice a n cap) bs) (i : Nat) (hi : i < bs.length) : ∃ g o, a = some ⟨g, o, none⟩ ∧ n = bs.length ∧ n ≤ cap ∧ w.cell? ⟨g, o + i, none⟩ = some (.int .u8 (bs.getD i 0)) ∧ 0 ≤ bs.getD i 0 ∧ bs.getD i 0 < 256 := by
  have e : bs.getD i 0 = bs[i] := by simp [hi]
  have hb := h.ok bs[i] (List.getElem_mem hi)
  rcases h.is with ⟨-, h2⟩ | ⟨g, o, cap', h1, h2, h3, h4⟩
  · subst h2; simp at hi
  · simp only [Value.slice.injEq] at h1
    obtain ⟨rfl, rfl, rfl⟩ := h1
    exact ⟨g, o, rfl, rfl, h3, by rw [e]; exact h4 i hi, by rw [e]; exact hb⟩

/-- The next byte, from a least to a greatest one. -/
def NextDone (w : World) (rb : Nat) (v : Value) (bs : List Int) (k : Nat) (lo hi : Int) (e : Ending) (w' : World) : Prop :=
  (¬ k < bs.length ∧ e = thrown bs.length ∧ Ex w w') ∨
  (k < bs.length ∧ (bs.getD k 0 < lo ∨ hi < bs.getD k 0) ∧ e = thrown k ∧ Ex w w') ∨
  (k < bs.length ∧ ¬ (bs.getD k 0 < lo ∨ hi < bs.getD k 0) ∧ e = .returned (.int .i64 (bs.getD k 0)) ∧ Box w' rb #[v, .int .i64 ((k : Int) + 1)] 52 ∧ Chg (fun i => i = rb) w w')

set_option maxRecDepth 20000 in
set_option maxHeartbeats 1600000 in
theorem next_any {w : World} {rb : Nat} {v : Value} {bs : List Int} (k : Nat) (h : Bs w v bs) (hr : Box w rb #[v, .int .i64 (k : Int)] 52) (hb : k ≤ 200000) (lo hi : Int) :
    Calls Try.prog 19 #[.pointer (some ⟨rb, 0, none⟩), .int .i64 lo, .int .i64 hi] w (NextDone w rb v bs k lo hi) := by
  obtain ⟨a, cap, rfl⟩ := h.val
  have c0 : w.cell? ⟨rb, 0, none⟩ = some (.slice a bs.length cap) := hr.cell 0
  have c1 : w.cell? ⟨rb, 1, none⟩ = some (.int .i64 (k : Int)) := hr.cell 1
  have L := h.len
  by_cases ha : k < bs.length
  · have t1 : decide (bs.length ≤ k) = false := by simp; omega
    obtain ⟨g, o, rfl, -, hcap, hc, x1, x2⟩ := h.at k ha
    obtain ⟨x, hx⟩ : ∃ x, bs.getD k 0 = x := ⟨_, rfl⟩
    rw [hx] at hc x1 x2
    have HX := Lib.hid hx
    have HA := Lib.hid ha
    have HR := Lib.hid hr
    have f1 := hr.soft 1
    have q1 : (k : Int) < (bs.length : Int) := by omega
    have q2 : (0 : Int) ≤ (k : Int) := by omega
    have q3 : (bs.length : Int) ≤ (cap : Int) := by omega
    clear h hr hx
    by_cases h1 : x < lo
    · clear ha f1
      go_enter Try.func19, Try.ntmps19
      go_wp2_with fail
      go_quiet (fail)
      go_wp2_with fail
      go_quiet (fail)
      go_wp2_with fail
      exact ⟨rfl, .inr (.inl ⟨HA.out, .inl (by rw [HX.out]; exact h1), rfl, Ex.drawn _ _⟩)⟩
    · by_cases h2 : hi < x
      · have h1' : ¬ x < lo := h1
        clear ha f1
        go_enter Try.func19, Try.ntmps19
        go_wp2_with fail
        go_quiet (fail)
        go_wp2_with fail
        go_quiet (fail)
        go_wp2_with fail
        exact ⟨rfl, .inr (.inl ⟨HA.out, .inr (by rw [HX.out]; exact h2), rfl, Ex.drawn _ _⟩)⟩
      · have h1' : ¬ x < lo := h1
        clear ha
        go_enter Try.func19, Try.ntmps19
        go_wp2_with fail
        go_quiet (fail)
        go_wp2_with fail
        go_quiet (fail)
        go_wp2_with fail
        go_ret
        refine .inr (.inr ⟨HA.out, by rw [HX.out]; omega, by rw [HX.out]; rfl, ?_, ?_⟩)
        · exact (HR.out.ex (Ex.drawn _ _)).put 1 _
        · exact ((Ex.drawn w _).chg _).trans (Chg.cell (F := fun i => i = rb) _ ⟨rb, 1, none⟩ _ rfl) (fun _ _ h => h)
  · have t1 : decide (bs.length ≤ k) = true := by simp; omega
    have HA := Lib.hid ha
    clear h hr ha
    go_enter Try.func19, Try.ntmps19
    go_wp2_with fail
    go_quiet (fail)
    go_wp2_with fail
    exact ⟨rfl, .inl ⟨HA.out, rfl, Ex.drawn _ _⟩⟩

end Go.Proofs.Ytmajnjbjoagihaa
