/- ModelGlobals: plain. -/
import Derived.Test.YtmlobpapjfkbmaaPCountsP16
namespace Go.Proofs.Ytmlobpapjfkbmaa
set_option linter.unusedVariables false
set_option maxRecDepth 20000
set_option linter.unusedSimpArgs false

/-- Pairs of an alloc and a put. -/
def pG (gl : List Nat) : Nat → List C15.I4
  | 0 => []
  | q + 1 => pG gl q ++ [(1, 1, 0, 0), (7, ((gl.getD q 0 : Nat) : Int), 1, 0)]
def fG (gl : List Nat) (q : Nat) : List C15.I4 := pG gl q ++ [(0, 0, 0, 0)]
theorem pG_len (gl : List Nat) : ∀ q, (pG gl q).length = 2 * q
  | 0 => rfl
  | q + 1 => by rw [pG, List.length_append, pG_len gl q]; simp; omega
theorem fG_len (gl : List Nat) (q : Nat) : (fG gl q).length = 2 * q + 1 := by unfold fG; rw [List.length_append, pG_len]; rfl
theorem pG_at (gl : List Nat) : ∀ q c, c < q → (pG gl q)[2 * c]? = some (1, 1, 0, 0) ∧ (pG gl q)[2 * c + 1]? = some (7, ((gl.getD c 0 : Nat) : Int), 1, 0)
  | 0, c, h => absurd h (Nat.not_lt_zero _)
  | q + 1, c, h => by
    have hl := pG_len gl q
    rw [pG]
    by_cases hq : c < q
    · obtain ⟨h1, h2⟩ := pG_at gl q c hq
      rw [List.getElem?_append_left (by omega), List.getElem?_append_left (by omega)]
      exact ⟨h1, h2⟩
    · obtain rfl : c = q := by omega
      rw [List.getElem?_append_right (by omega), List.getElem?_append_right (by omega), hl, show 2 * c - 2 * c = 0 by omega, show 2 * c + 1 - 2 * c = 1 by omega]
      exact ⟨rfl, rfl⟩
theorem fG_at (gl : List Nat) (q c : Nat) (h : c < q) : (fG gl q).getD (2 * c) (0, 0, 0, 0) = (1, 1, 0, 0) ∧ (fG gl q).getD (2 * c + 1) (0, 0, 0, 0) = (7, ((gl.getD c 0 : Nat) : Int), 1, 0) := by
  obtain ⟨h1, h2⟩ := pG_at gl q c h
  have hl := pG_len gl q
  unfold fG
  simp only [List.getD_eq_getElem?_getD]
  rw [List.getElem?_append_left (by omega), List.getElem?_append_left (by omega), h1, h2]
  exact ⟨rfl, rfl⟩
theorem fG_end (gl : List Nat) (q : Nat) : (fG gl q).getD (2 * q) (0, 0, 0, 0) = (0, 0, 0, 0) := by
  have hl := pG_len gl q
  unfold fG
  simp only [List.getD_eq_getElem?_getD]
  rw [List.getElem?_append_right (by omega), hl, Nat.sub_self]
  rfl
theorem pG_mem {gl : List Nat} {k : Nat} (hk : 0 < k) (hg : ∀ x ∈ gl, x < k) : ∀ q, ∀ x ∈ pG gl q, x = (1, 1, 0, 0) ∨ ∃ g, g < k ∧ x = (7, ((g : Nat) : Int), 1, 0)
  | 0, x, h => by cases h
  | q + 1, x, h => by
    rw [pG] at h
    rcases List.mem_append.1 h with h | h
    · exact pG_mem hk hg q x h
    · simp only [List.mem_cons, List.mem_nil_iff, or_false] at h
      rcases h with rfl | rfl
      · exact .inl rfl
      · refine .inr ⟨_, ?_, rfl⟩
        rw [List.getD_eq_getElem?_getD]
        cases e : gl[q]? with
        | none => exact hk
        | some v => exact hg v (List.mem_of_getElem? e)
theorem may_G {gl : List Nat} {k q : Nat} (hk : 0 < k) (hk8 : k ≤ 8) (hg : ∀ x ∈ gl, x < k) (hq : q ≤ 30) : C15.mayI (k : Int) [fG gl q] = 0 := by
  have hl := fG_len gl q
  refine C15.MayBe.may ⟨by simp, by simp, by omega, by omega, ?_, ?_⟩
  · intro p hp
    simp only [List.mem_cons, List.mem_nil_iff, or_false] at hp
    subst hp
    omega
  · intro p hp x hx
    simp only [List.mem_cons, List.mem_nil_iff, or_false] at hp
    subst hp
    rw [hl]
    rcases List.mem_append.1 hx with hx | hx
    · rcases pG_mem hk hg q x hx with rfl | ⟨g, h1, rfl⟩
      · simp [C15.wrongI, C15.okP, C15.kd, C15.kdT, C15.lim]
      · simp [C15.wrongI, C15.okP, C15.kd, C15.kdT, C15.lim]; omega
    · simp only [List.mem_cons, List.mem_nil_iff, or_false] at hx
      subst hx
      simp [C15.wrongI, C15.okP, C15.kd, C15.kdT, C15.lim]

/-- The globals behind c puts. -/
def wG (k : Nat) (gl : List Nat) : Nat → List Nat
  | 0 => List.replicate k 0
  | c + 1 => (wG k gl c).set (gl.getD c 0) (c + 1)
theorem wG_len (k : Nat) (gl : List Nat) : ∀ c, (wG k gl c).length = k
  | 0 => List.length_replicate
  | c + 1 => by rw [wG, List.length_set, wG_len k gl c]
theorem wG_le (k : Nat) (gl : List Nat) : ∀ c, ∀ x ∈ wG k gl c, x ≤ c
  | 0, x, h => by rw [(List.mem_replicate.1 h).2]; exact Nat.le_refl 0
  | c + 1, x, h => by
    rcases List.mem_or_eq_of_mem_set h with h | rfl
    · have := wG_le k gl c x h; omega
    · exact Nat.le_refl _
theorem nz_set : ∀ (l : List Nat) (g v : Nat), v ≠ 0 → (∀ x ∈ l, x < v) → (l.filter (fun x => decide (x ≠ 0))).Nodup → ((l.set g v).filter (fun x => decide (x ≠ 0))).Nodup ∧ ∀ x ∈ (l.set g v).filter (fun x => decide (x ≠ 0)), x = v ∨ x ∈ l.filter (fun x => decide (x ≠ 0))
  | [], g, v, _, _, h => ⟨h, fun x hx => .inr hx⟩
  | y :: l, 0, v, hv, hl, h => by
    rw [List.set_cons_zero, List.filter_cons_of_pos (by simpa using hv)]
    have hn : (l.filter (fun x => decide (x ≠ 0))).Nodup := by
      by_cases e : y = 0
      · rw [List.filter_cons_of_neg (by simp [e])] at h; exact h
      · rw [List.filter_cons_of_pos (by simpa using e), List.nodup_cons] at h; exact h.2
    refine ⟨List.nodup_cons.2 ⟨fun hm => ?_, hn⟩, fun x hx => ?_⟩
    · have := hl v (List.mem_cons_of_mem _ (List.mem_filter.1 hm).1); omega
    · rcases List.mem_cons.1 hx with rfl | hx
      · exact .inl rfl
      · right
        by_cases e : y = 0
        · rw [List.filter_cons_of_neg (by simp [e])]; exact hx
        · rw [List.filter_cons_of_pos (by simpa using e)]; exact List.mem_cons_of_mem _ hx
  | y :: l, g + 1, v, hv, hl, h => by
    rw [List.set_cons_succ]
    by_cases e : y = 0
    · rw [List.filter_cons_of_neg (by simp [e])] at h ⊢
      rw [List.filter_cons_of_neg (by simp [e])]
      exact nz_set l g v hv (fun x hx => hl x (List.mem_cons_of_mem _ hx)) h
    · rw [List.filter_cons_of_pos (by simpa using e), List.nodup_cons] at h
      rw [List.filter_cons_of_pos (by simpa using e), List.filter_cons_of_pos (by simpa using e)]
      obtain ⟨h1, h2⟩ := nz_set l g v hv (fun x hx => hl x (List.mem_cons_of_mem _ hx)) h.2
      refine ⟨List.nodup_cons.2 ⟨fun hm => ?_, h1⟩, fun x hx => ?_⟩
      · rcases h2 y hm with rfl | hm
        · have := hl y (List.mem_cons_self ..); omega
        · exact h.1 hm
      · rcases List.mem_cons.1 hx with rfl | hx
        · exact .inr (List.mem_cons_self ..)
        · rcases h2 x hx with h | h
          · exact .inl h
          · exact .inr (List.mem_cons_of_mem _ h)
theorem wG_nd (k : Nat) (gl : List Nat) : ∀ c, ((wG k gl c).filter (fun x => decide (x ≠ 0))).Nodup
  | 0 => by
    have : (wG k gl 0).filter (fun x => decide (x ≠ 0)) = [] := by
      rw [List.filter_eq_nil_iff]; intro x hx; rw [(List.mem_replicate.1 hx).2]; simp
    rw [this]; exact List.nodup_nil
  | c + 1 => (nz_set _ _ _ (by omega) (fun x hx => Nat.lt_succ_of_le (wG_le k gl c x hx)) (wG_nd k gl c)).1

def sG (pc c st : Nat) (W : List Nat) : MS := ⟨[⟨0, pc, 0, 0 :: c :: List.replicate 14 0⟩], [st], W, [] :: List.replicate c [0], [], 0, List.replicate 32 [], 0⟩
theorem sG_start (k : Nat) (gl : List Nat) : m0 k = sG 0 0 1 (wG k gl 0) := rfl
/-- Behind i instructions. -/
def gS (k : Nat) (gl : List Nat) (q i : Nat) : MS := if i = 2 * q + 1 then sG i q 5 (wG k gl q) else sG i ((i + 1) / 2) 1 (wG k gl (i / 2))
theorem gS_zero (k : Nat) (gl : List Nat) (q : Nat) : gS k gl q 0 = m0 k := by unfold gS; rw [if_neg (by omega)]; rfl
theorem inst_G (gl : List Nat) (q pc c st : Nat) (W : List Nat) : instAt [fG gl q] ((sG pc c st W).at 0) = (fG gl q).getD pc (0, 0, 0, 0) := rfl
theorem G_even {k q c : Nat} {gl : List Nat} (h : c < q) : stepM [fG gl q] (gS k gl q (2 * c)) 0 = gS k gl q (2 * c + 1) ∧ (tells [fG gl q] (gS k gl q (2 * c)) 0).op = 1 ∧ (tells [fG gl q] (gS k gl q (2 * c)) 0).v = ((c + 1 : Nat) : Int) ∧ (tells [fG gl q] (gS k gl q (2 * c)) 0).bad = false := by
  have e1 : gS k gl q (2 * c) = sG (2 * c) c 1 (wG k gl c) := by unfold gS; rw [if_neg (by omega), show (2 * c + 1) / 2 = c by omega, show 2 * c / 2 = c by omega]
  have e2 : gS k gl q (2 * c + 1) = sG (2 * c + 1) (c + 1) 1 (wG k gl c) := by unfold gS; rw [if_neg (by omega), show (2 * c + 1 + 1) / 2 = c + 1 by omega, show (2 * c + 1) / 2 = c by omega]
  have hi : instAt [fG gl q] ((sG (2 * c) c 1 (wG k gl c)).at 0) = (((1 : Nat) : Int), ((1 : Nat) : Int), ((0 : Nat) : Int), ((0 : Nat) : Int)) := (fG_at gl q c h).1
  obtain ⟨s1, s2⟩ := step_of hi
  have hl : (sG (2 * c) c 1 (wG k gl c)).slots.length = c + 1 := by simp [sG]
  rw [e1, e2, s1, s2]
  refine ⟨?_, rfl, ?_, rfl⟩
  · show (⟨[⟨0, 2 * c + 1, 0, 0 :: (sG (2 * c) c 1 (wG k gl c)).slots.length :: List.replicate 14 0⟩], [1], wG k gl c, ([] :: List.replicate c [0]) ++ [[0]], [], 0, List.replicate 32 [], 0⟩ : MS) = _
    rw [hl]
    unfold sG
    rw [List.cons_append, ← List.replicate_succ']
  · show (((sG (2 * c) c 1 (wG k gl c)).slots.length : Nat) : Int) = _
    rw [hl]
theorem G_odd {k q c : Nat} {gl : List Nat} (h : c < q) : stepM [fG gl q] (gS k gl q (2 * c + 1)) 0 = gS k gl q (2 * c + 2) ∧ (tells [fG gl q] (gS k gl q (2 * c + 1)) 0).op = 7 ∧ (tells [fG gl q] (gS k gl q (2 * c + 1)) 0).bad = false := by
  have e1 : gS k gl q (2 * c + 2) = sG (2 * c + 2) (c + 1) 1 (wG k gl (c + 1)) := by unfold gS; rw [if_neg (by omega), show (2 * c + 2 + 1) / 2 = c + 1 by omega, show (2 * c + 2) / 2 = c + 1 by omega]
  have e2 : gS k gl q (2 * c + 1) = sG (2 * c + 1) (c + 1) 1 (wG k gl c) := by unfold gS; rw [if_neg (by omega), show (2 * c + 1 + 1) / 2 = c + 1 by omega, show (2 * c + 1) / 2 = c by omega]
  have hi : instAt [fG gl q] ((sG (2 * c + 1) (c + 1) 1 (wG k gl c)).at 0) = (((7 : Nat) : Int), ((gl.getD c 0 : Nat) : Int), ((1 : Nat) : Int), ((0 : Nat) : Int)) := (fG_at gl q c h).2
  obtain ⟨s1, s2⟩ := step_of hi
  rw [e1, e2, s1, s2]
  exact ⟨rfl, rfl, rfl⟩
theorem G_end {k q : Nat} {gl : List Nat} : stepM [fG gl q] (gS k gl q (2 * q)) 0 = gS k gl q (2 * q + 1) ∧ (tells [fG gl q] (gS k gl q (2 * q)) 0).op = 0 ∧ (tells [fG gl q] (gS k gl q (2 * q)) 0).bad = false := by
  have e1 : gS k gl q (2 * q) = sG (2 * q) q 1 (wG k gl q) := by unfold gS; rw [if_neg (by omega), show (2 * q + 1) / 2 = q by omega, show 2 * q / 2 = q by omega]
  have e2 : gS k gl q (2 * q + 1) = sG (2 * q + 1) q 5 (wG k gl q) := by unfold gS; rw [if_pos rfl]
  have hi : instAt [fG gl q] ((sG (2 * q) q 1 (wG k gl q)).at 0) = (((0 : Nat) : Int), ((0 : Nat) : Int), ((0 : Nat) : Int), ((0 : Nat) : Int)) := fG_end gl q
  obtain ⟨s1, s2⟩ := step_of hi
  rw [e1, e2, s1, s2]
  exact ⟨rfl, rfl, rfl⟩
theorem gS_facts (k : Nat) (gl : List Nat) (q i : Nat) : (gS k gl q i).gs.length = 1 ∧ (gS k gl q i).sleep = [] ∧ (i ≠ 2 * q + 1 → (gS k gl q i).st.getD 0 0 = 1) ∧ (i ≤ 2 * q + 1 → (gS k gl q i).globals = wG k gl (i / 2)) := by
  unfold gS
  by_cases e : i = 2 * q + 1
  · rw [if_pos e]
    exact ⟨rfl, rfl, fun h => absurd e h, fun _ => by rw [e, show (2 * q + 1) / 2 = q by omega]; rfl⟩
  · rw [if_neg e]
    exact ⟨rfl, rfl, fun _ => rfl, fun _ => rfl⟩
/-- What is reached at the end. -/
theorem G_reach (k : Nat) (gl : List Nat) (q : Nat) : (rchL (gS k gl q (2 * q + 1))).length = ((wG k gl q).filter (fun x => decide (x ≠ 0))).length := by
  classical
  have e2 : gS k gl q (2 * q + 1) = sG (2 * q + 1) q 5 (wG k gl q) := by unfold gS; rw [if_pos rfl]
  rw [e2]
  have hr : rootsM (sG (2 * q + 1) q 5 (wG k gl q)) = wG k gl q := by
    show wG k gl q ++ [] = _
    rw [List.append_nil]
  have hs : ∀ i, ∀ x ∈ ([] :: List.replicate q [0] : List (List Nat)).getD i [], x = 0 := by
    intro i x hx
    cases i with
    | zero => cases hx
    | succ i =>
      rw [List.getD_cons_succ, List.getD_eq_getElem?_getD, List.getElem?_replicate] at hx
      split at hx
      · simpa using hx
      · cases hx
  have hR : ∀ i, Rch (sG (2 * q + 1) q 5 (wG k gl q)) i ↔ i ∈ (wG k gl q).filter (fun x => decide (x ≠ 0)) := by
    intro i
    constructor
    · intro r
      cases r with
      | root h1 h2 => exact List.mem_filter.2 ⟨hr ▸ h1, by simpa using h2⟩
      | step _ h1 h2 => exact absurd (hs _ _ h1) h2
    · intro h
      obtain ⟨h1, h2⟩ := List.mem_filter.1 h
      exact .root (hr.symm ▸ h1) (by simpa using h2)
  refine List.Perm.length_eq ((List.perm_ext_iff_of_nodup ?_ (wG_nd k gl q)).2 fun i => ?_)
  · exact List.nodup_range.sublist List.filter_sublist
  · unfold rchL
    rw [List.mem_filter, List.mem_range]
    constructor
    · intro h
      exact (hR i).1 (of_decide_eq_true h.2)
    · intro h
      refine ⟨?_, decide_eq_true ((hR i).2 h)⟩
      have := wG_le k gl q i (List.mem_filter.1 h).1
      show i < ([] :: List.replicate q [0] : List (List Nat)).length
      simp; omega
def nzTo (W : List Nat) (j : Nat) : Nat := ((W.take j).filter (fun x => decide (x ≠ 0))).length
theorem nz_step (W : List Nat) (j x : Nat) (hj : j < W.length) (hx : W.getD j 0 = x) : nzTo W (j + 1) = nzTo W j + (if x = 0 then 0 else 1) := by
  have : W.take (j + 1) = W.take j ++ [x] := by
    rw [List.take_add_one, ← hx]; simp [hj]
  unfold nzTo
  rw [this, List.filter_append, List.length_append]
  congr 1
  by_cases e : x = 0
  · rw [if_pos e, List.filter_cons_of_neg (by simp [e])]; rfl
  · rw [if_neg e, List.filter_cons_of_pos (by simpa using e)]; rfl

end Go.Proofs.Ytmlobpapjfkbmaa
