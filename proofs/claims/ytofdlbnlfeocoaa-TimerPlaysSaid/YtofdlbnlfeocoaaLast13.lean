/- A region that draws its order, whose last operation waits for all others: what is held need not hold behind the last. -/
import Derived.Test.YtofdlbnlfeocoaaBase
import Derived.Deep.RegionHeld3
namespace Go.Proofs.Ytofdlbnlfeocoaa
open Go
set_option linter.unusedVariables false

/-- Each operation but the n-th is waited for by a later one. -/
def lastOf (md : Region.Mode) (ops : Array Oper) (n : Nat) : Bool :=
  ops.size == n + 1 && (List.range n).all fun i => (List.range ops.size).any fun j => decide (i < j) && ((ops[j]?).map fun o => o.after.any fun e => Region.binds md e && e.on == i).getD false
/-- Who is listed was waited for by none that isn't. -/
def ClosedL (md : Region.Mode) (ops : Array Oper) (listed : Array Bool) : Prop :=
  ∀ (j : Nat) (o : Oper), ops[j]? = some o → listed.getD j true = true → ∀ e ∈ o.after, Region.binds md e = true → listed.getD e.on true = true

section
variable {P : Program} {ops : Array Oper} {Q : Exit → Act → World → Prop} {md : Region.Mode} {S : World → Prop} {n : Nat}

theorem getD_true {listed : Array Bool} {i : Nat} (h : listed.getD i false = true) : listed.getD i true = true := by
  rcases Nat.lt_or_ge i listed.size with h' | h'
  · simp [h'] at h ⊢; exact h
  · simp [Array.getElem?_eq_none h'] at h
theorem getD_set_t {listed : Array Bool} {i j : Nat} (h : listed.getD j true = true) : (listed.setIfInBounds i true).getD j true = true := by
  by_cases hij : i = j
  · subst hij
    rcases Nat.lt_or_ge i listed.size with h' | h'
    · simp [h']
    · simp [Nat.not_lt.2 h']
  · rw [getD_set_ne true hij]; exact h
theorem ClosedL.set {listed : Array Bool} (h : ClosedL md ops listed) {i : Nat} (hi : i ∈ Region.ready md ops listed) : ClosedL md ops (listed.setIfInBounds i true) := by
  intro j o ho hl e he hb
  by_cases hij : i = j
  · subst hij
    obtain ⟨-, o2, ho2, hall⟩ := mem_ready.1 hi
    rw [ho] at ho2
    cases ho2
    exact getD_set_t (getD_true (hall e he hb))
  · rw [getD_set_ne true hij] at hl
    exact getD_set_t (h j o ho hl e he hb)
/-- When the last may come up all others have. -/
theorem lastOf_all {listed : Array Bool} (hl : lastOf md ops n = true) (hc : ClosedL md ops listed) (hn : n ∈ Region.ready md ops listed) : ∀ (d i : Nat), i + d = n → i ≠ n → listed.getD i true = true := by
  unfold lastOf at hl
  rw [Bool.and_eq_true, List.all_eq_true] at hl
  obtain ⟨hsz, hall⟩ := hl
  have hsz : ops.size = n + 1 := by simpa using hsz
  intro d
  induction d using Nat.strongRecOn with
  | ind d ih =>
    intro i hid hne
    have h1 := hall i (by rw [List.mem_range]; omega)
    rw [List.any_eq_true] at h1
    obtain ⟨j, hj, h2⟩ := h1
    rw [Bool.and_eq_true] at h2
    obtain ⟨h3, h4⟩ := h2
    have h3 : i < j := by simpa using h3
    have hjn : j < n + 1 := by rw [List.mem_range, hsz] at hj; exact hj
    cases ho : ops[j]? with
    | none => rw [ho] at h4; cases h4
    | some o =>
      rw [ho] at h4
      have h5 : (o.after.any fun e => Region.binds md e && e.on == i) = true := h4
      obtain ⟨k, hk, h6, hei⟩ : ∃ (k : Nat) (h : k < o.after.size), Region.binds md o.after[k] = true ∧ o.after[k].on = i := by simpa using h5
      have he := Array.getElem_mem hk
      generalize o.after[k] = e at he h6 hei
      by_cases hjn2 : j = n
      · subst hjn2
        obtain ⟨-, o2, ho2, hal⟩ := mem_ready.1 hn
        rw [ho] at ho2
        cases ho2
        have := hal e he h6
        rw [hei] at this
        exact getD_true this
      · have h7 := ih (n - j) (by omega) j (by omega) hjn2
        have := hc j o ho h7 e he h6
        rwa [hei] at this

/-- Whatever order is picked from here on; S holds behind each but the last. -/
def wpAnyL (P : Program) (md : Region.Mode) (ops : Array Oper) (Q : Exit → Act → World → Prop) (S : World → Prop) (n : Nat) : Nat → Array Bool → Act → World → Prop
  | 0, listed, a, w => Region.ready md ops listed = [] ∧ Q .normal a w
  | fuel + 1, listed, a, w =>
    (Region.ready md ops listed = [] → Q .normal a w) ∧
    ∀ i ∈ Region.ready md ops listed, wpOp P ops Q i (fun a' w' => (i ≠ n → S w') ∧ wpAnyL P md ops Q S n fuel (listed.setIfInBounds i true) a' w') a w

theorem wpAny_of_last : ∀ (fuel : Nat) (listed : Array Bool) (a : Act) (w : World), wpAnyL P md ops Q S n fuel listed a w → wpAny P md ops Q fuel listed a w
  | 0, _, _, _, h => h
  | fuel + 1, _, _, _, h => ⟨h.1, fun i hi => wpOp_mono (fun a' w' h' => wpAny_of_last fuel _ a' w' h'.2) (h.2 i hi)⟩

theorem wpAnyL_first {i : Nat} {oi : Oper} {v : Value} (hn : lastOf md ops n = true) (hin : i ≠ n) (hi : ops[i]? = some oi) (hsel : ∀ (j : Nat) (o : Oper) cs b, ops[j]? = some o → o.op ≠ .select cs b)
    (hQ : ∀ c a w, Q (.panic c) (a.put oi.dst v) w → Q (.panic c) a w) :
    ∀ (fuel : Nat) (listed : Array Bool) (a : Act) (w : World), ClosedL md ops listed →
      (∀ j oj, ops[j]? = some oj → j ≠ i → listed.getD j true = false → (∀ e ∈ oj.after, Region.binds md e = true → e.on ≠ i) → oi.apart ops oj = true) →
      i ∈ Region.ready md ops listed → YieldsIf P ops S oi v a → S w →
      wpAnyL P md ops Q S n fuel (listed.setIfInBounds i true) (a.put oi.dst v) w → wpAnyL P md ops Q S n (fuel + 1) listed a w := by
  intro fuel
  induction fuel with
  | zero =>
    intro listed a w _ _ hr hy hS H
    refine ⟨fun h => (by rw [h] at hr; cases hr), fun j hj => ?_⟩
    by_cases hji : j = i
    · subst hji; exact hy.wpOp hi hS ⟨fun _ => hS, H⟩
    · have := ready_mono hj hji
      rw [H.1] at this
      cases this
  | succ fuel ih =>
    intro listed a w hcl hfree hr hy hS H
    refine ⟨fun h => (by rw [h] at hr; cases hr), fun j hj => ?_⟩
    by_cases hji : j = i
    · subst hji; exact hy.wpOp hi hS ⟨fun _ => hS, H⟩
    · have hjn : j ≠ n := fun e => by
        subst e
        have hlt : i ≤ j := by
          have h1 := (Array.getElem?_eq_some_iff.1 hi).1
          unfold lastOf at hn
          rw [Bool.and_eq_true] at hn
          have : ops.size = j + 1 := by simpa using hn.1
          omega
        have h2 := lastOf_all hn hcl hj (j - i) i (by omega) hin
        rw [(mem_ready.1 hr).1] at h2
        cases h2
      have h1 := H.2 j (ready_mono hj hji)
      obtain ⟨hjun, oj, hoj, hall⟩ := mem_ready.1 hj
      have hnot : ∀ e ∈ oj.after, Region.binds md e = true → e.on ≠ i := fun e he hb heq => by
        have h1 := hall e he hb
        have h0 := (mem_ready.1 hr).1
        rw [heq] at h1
        rw [getD_true h1] at h0
        cases h0
      have h2 := wpOp_putIf hoj (hfree j oj hoj hji hjun hnot) (fun cs b => hsel i oi cs b hi) (fun cs b => hsel j oj cs b hoj) hQ hy h1
      have hfree' : ∀ k ok, ops[k]? = some ok → k ≠ i → (listed.setIfInBounds j true).getD k true = false →
          (∀ e ∈ ok.after, Region.binds md e = true → e.on ≠ i) → oi.apart ops ok = true := fun k ok hk hki hun hno => by
        refine hfree k ok hk hki ?_ hno
        by_cases hjk : j = k
        · subst hjk; exact hjun
        · rw [getD_set_ne true hjk] at hun; exact hun
      refine wpOp_mono (fun a' w' h3 => ⟨h3.2.1, ih (listed.setIfInBounds j true) a' w' (hcl.set hj) hfree' (ready_mono hr (Ne.symm hji)) h3.1 (h3.2.1 hjn) ?_⟩) h2
      rw [Array.setIfInBounds_comm _ _ hji]
      exact h3.2.2

/-- The walk's goal: what is listed is closed. -/
def HeldL (P : Program) (md : Region.Mode) (ops : Array Oper) (Q : Exit → Act → World → Prop) (S : World → Prop) (n : Nat) (fuel : Nat) (listed : Array Bool) (a : Act) (w : World) : Prop :=
  lastOf md ops n = true → ClosedL md ops listed → wpAnyL P md ops Q S n fuel listed a w

theorem heldL_take {i : Nat} {oi : Oper} {v : Value} {fuel : Nat} {listed : Array Bool} {a : Act} {w : World} (hi : ops[i]? = some oi) (hin : (i == n) = false)
    (hs : Region.noSelect ops = true) (hf : Region.free md ops listed i = true) (hr : (Region.ready md ops listed).contains i = true)
    (hQ : ∀ c a w, Q (.panic c) (a.put oi.dst v) w → Q (.panic c) a w) (hy : YieldsIf P ops S oi v a) (hS : S w)
    (h : HeldL P md ops Q S n fuel (listed.setIfInBounds i true) (a.put oi.dst v) w) : HeldL P md ops Q S n (fuel + 1) listed a w := fun hn hc =>
  wpAnyL_first hn (by simpa using hin) hi (Region.noSelect_spec hs) hQ fuel listed a w hc (Region.free_spec hi hf) (by simpa using hr) hy hS (h hn (hc.set (by simpa using hr)))

def AllL (P : Program) (md : Region.Mode) (ops : Array Oper) (Q : Exit → Act → World → Prop) (S : World → Prop) (n : Nat) (fuel : Nat) (listed : Array Bool) (a : Act) (w : World) (rs : List Nat) : Prop :=
  ∀ i ∈ rs, wpOp P ops Q i (fun a' w' => (i ≠ n → S w') ∧ HeldL P md ops Q S n fuel (listed.setIfInBounds i true) a' w') a w
theorem AllL.nil {fuel : Nat} {listed : Array Bool} {a : Act} {w : World} : AllL P md ops Q S n fuel listed a w [] := fun _ h => by cases h
theorem AllL.cons {fuel : Nat} {listed : Array Bool} {a : Act} {w : World} {i : Nat} {o : Oper} {rs : List Nat} (ho : ops[i]? = some o)
    (h : ∀ K' : Act → World → Prop, Shut (∀ a w, (i ≠ n → S w) → ((i ≠ n → S w) → HeldL P md ops Q S n fuel (listed.setIfInBounds i true) a w) → K' a w) → if Region.wanted o (yielded ops a.tmps) = true then Oper.wp P o a w K' Q else K' (a.put o.dst undef) w)
    (hs : AllL P md ops Q S n fuel listed a w rs) : AllL P md ops Q S n fuel listed a w (i :: rs) := fun j hj => by
  rcases List.mem_cons.1 hj with rfl | hj
  · exact wpOp_step ho (fun K' hK => h K' (fun a w hS hW => hK a w ⟨hS, hW hS⟩))
  · exact hs j hj
theorem heldL_ready {rs : List Nat} {fuel : Nat} {listed : Array Bool} {a : Act} {w : World} (hr : Region.ready md ops listed = rs) (hne : rs ≠ [])
    (h : AllL P md ops Q S n fuel listed a w rs) : HeldL P md ops Q S n (fuel + 1) listed a w := fun hn hc =>
  ⟨fun h0 => absurd (hr ▸ h0) hne, fun i hi => wpOp_mono (fun a' w' h' => ⟨h'.1, h'.2 hn (hc.set hi)⟩) (h i (hr ▸ hi))⟩
theorem heldL_done {listed : Array Bool} {a : Act} {w : World} (hr : Region.ready md ops listed = []) (h : Q .normal a w) :
    ∀ fuel, HeldL P md ops Q S n fuel listed a w
  | 0 => fun _ _ => ⟨hr, h⟩
  | _ + 1 => fun _ _ => ⟨fun _ => h, by rw [hr]; simp⟩

/-- The last operation's step alone. -/
theorem heldL_last {fuel : Nat} {listed : Array Bool} {a : Act} {w : World} (hr : Region.ready md ops listed = [n]) (hr2 : Region.ready md ops (listed.setIfInBounds n true) = [])
    (h : wpOp P ops Q n (fun a' w' => Q .normal a' w') a w) : HeldL P md ops Q S n (fuel + 1) listed a w := fun hn hc =>
  ⟨fun h0 => (by rw [hr] at h0; cases h0), fun i hi => by
    rw [hr] at hi
    obtain rfl : i = n := by simpa using hi
    refine wpOp_mono (fun a' w' h' => ⟨fun h => (h rfl).elim, ?_⟩) h
    exact heldL_done hr2 h' fuel hn (hc.set (by rw [hr]; simp))⟩

theorem wp_region_last {id : Nat} {a : Act} {w : World} (n m : Nat) (hsz : (ops.size == m) = true) (hm : P.follows .mixedOrders = true) (hn : lastOf .any ops n = true) (hS : S w.drew)
    (h : S w.drew → HeldL P .any ops Q S n m (Array.replicate m false) a w.drew) : (Code.region id ops true).wp P Q a w := by
  have hsz : ops.size = m := by simpa using hsz
  subst hsz
  refine wp_region_any hm (wpAny_of_last (S := S) (n := n) _ _ _ _ (h hS hn ?_))
  intro j o ho hl
  have hlt := (Array.getElem?_eq_some_iff.1 ho).1
  simp [hlt] at hl
end

end Go.Proofs.Ytofdlbnlfeocoaa
