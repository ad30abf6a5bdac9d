/- append onto a row of the call's own: where the new row lies. -/
import Derived.Test.YtofdlbnlfeocoaaChg
import Derived.ArgAppend
namespace Go.Proofs.Ytofdlbnlfeocoaa
open Go.RowKit
set_option linter.unusedVariables false

theorem wpList_append_mine {P : Program} (w : World) {ops : Array Oper} {rest : List Oper} {o : Oper} {a : Act} {Q : Exit → Act → World → Prop} (hgd : o.guard = none) (s x : Operand) (t : TypeId)
    (ho : o.op = .call { callee := .builtin .append, args := #[s, x], argTypes := #[t, t] })
    (base : Nat) (e : TypeId) (i : TypeInfo) (z : Value) (size bytes : Nat) (ht : P.underlying t = some (.slice e)) (hi : P.info? e = some i) (hz : i.zero = some z)
    (hsize : i.size = size) (hby : i.bytes = bytes) (hzs : z.cells.size = size) (hsz : 0 < size)
    (v : Value) (n : Nat) (xs : List Value) (hs : a.eval s = v) (hown : w.ownsRow base e size v n xs)
    (ad : Addr) (m c : Nat) (news : List Value) (hx : a.eval x = .slice (some ad) m c) (hl : news.length = m * size) (hnews : ∀ j u, news[j]? = some u → w.cell? (ad.add j) = some u) (h1 : ∀ u ∈ news, u.oneCell' = true)
    (h63 : n + m ≤ maxLen) (hbytes : (n + m) * bytes ≤ 140737488355328) (hbase : base ≤ w.heap.size) (hm : 0 < m)
    (h : ∀ g cap w', w'.ownsRow base e size (.slice (some ⟨g, 0, none⟩) (n + m) cap) (n + m) (xs ++ news) → w.grownBy w' v.ownBlock → (v.ownBlock = some g ∨ w.heap.size ≤ g) → base ≤ g → g < w'.heap.size → n + m ≤ cap → cap ≤ maxLen →
      wpList P ops Q rest (a.put o.dst (.slice (some ⟨g, 0, none⟩) (n + m) cap)) w') : wpList P ops Q (o :: rest) a w := by
  have grow : ∀ v' w', w'.ownsRow w.heap.size e size v' (n + m) (xs ++ news) → w.grownBy w' none → wpList P ops Q rest (a.put o.dst v') w' := by
    intro v' w' hown' hg
    rcases hown'.2 with ⟨h2, h3⟩ | ⟨g, cap, cur, rfl, h2, h3, h4, h5, h6⟩
    · omega
    · refine h g cap w' ⟨hown'.1, .inr ⟨g, cap, cur, rfl, by omega, h3, h4, h5, h6⟩⟩ ⟨hg.os, hg.tape, hg.output, hg.size, fun k hk _ => hg.block k hk (by simp)⟩ (.inr h2) (by omega) (Array.getElem?_eq_some_iff.1 h3).1 h4 h5
  rcases hown.2 with ⟨rfl, rfl⟩ | ⟨g, cap, cur, rfl, h2, h3, h4, h5, h6⟩
  · have hx0 : xs = [] := List.eq_nil_of_length_eq_zero (by simpa using hown.1)
    exact wpList_append_grows w hgd s x t ho e i z size bytes ht hi hz hsize hby hzs hsz none 0 0 xs hs (fun _ => ⟨rfl, rfl⟩) (by simpa using hown.1) (fun b hb => by cases hb) ad m c news hx hl hnews h1 (by omega) h63 hbytes grow
  · by_cases hr : n + m ≤ cap
    · refine wpList_append_fits w hgd s x t ho base e i size ht hi hsize g n cap xs hs hown ad m c news hx hl hnews h1 hr ?_
      intro w' hown' hg
      have hlt : g < w.heap.size := (Array.getElem?_eq_some_iff.1 h3).1
      exact h g cap w' hown' hg (.inl rfl) h2 (by have := hg.size; omega) hr h5
    · exact wpList_append_grows w hgd s x t ho e i z size bytes ht hi hz hsize hby hzs hsz (some ⟨g, 0, none⟩) n cap xs hs (fun h => by cases h) hown.1 (fun b hb => by cases hb; exact hown.cells (g := g) rfl) ad m c news hx hl hnews h1 (by omega) h63 hbytes grow

/-- One cell, just laid. -/
theorem one_new (w : World) (x : Value) (t : TypeId) : ∀ (j : Nat) (u : Value), [x][j]? = some u → (w.alloc (.cells #[x] t)).cell? ((⟨w.heap.size, 0, none⟩ : Addr).add j) = some u := by
  intro j u hj
  match j, hj with
  | 0, hj =>
    simp at hj; subst hj
    simp [Addr.add]
theorem one_cell {x : Value} (h : x.oneCell' = true) : ∀ u ∈ [x], u.oneCell' = true := by
  intro u hu; simp at hu; rw [hu]; exact h
theorem row_alloc_base (w : World) {b : Nat} (o : Obj) (h : b ≤ w.heap.size) : b ≤ (w.alloc o).heap.size := by simp; omega

end Go.Proofs.Ytofdlbnlfeocoaa
