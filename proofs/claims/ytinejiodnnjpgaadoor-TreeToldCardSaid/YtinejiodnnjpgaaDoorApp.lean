/- append of whatever slice reads (nil too) to a row of the call's own. -/
import Derived.Test.YtinejiodnnjpgaaDoorBlk
import Derived.Lib.AppendZeros
namespace Go.Proofs.YtinejiodnnjpgaaDoor
open Go.RowKit
set_option linter.unusedVariables false
set_option linter.unusedSimpArgs false
set_option maxRecDepth 100000

section
variable {P : Program} {t e : TypeId} {size bytes : Nat} {z : Value}

theorem run_app_zero (E : ElTy P t e size bytes z) (ty : TypeId) (w : World) (A : Option Addr) (n cap : Nat) (hc : n ≤ cap) (A' : Option Addr) (c : Nat) :
    (Builtin.append_ #[t, t] ty #[.slice A n cap, .slice A' 0 c]).run P w = .ok (.slice A n cap) w := by
  obtain ⟨i, hi, hz, hsz, hby⟩ := info_parts E.hi
  cases A <;> cases A' <;> simp [Builtin.append_, run_underlying E.ht, sizeOf, typeInfo, hi, Builtin.lenOf, Builtin.firstCells, loadCells, loadCellsFrom, storeCells, hc]

theorem wpList_app_rd (E : ElTy P t e size bytes z) {ops : Array Oper} {rest : List Oper} {o : Oper} {a : Act} {Q : Exit → Act → World → Prop} {w : World} (hgd : o.guard = none) (s x : Operand)
    (ho : o.op = .call { callee := .builtin .append, args := #[s, x], argTypes := #[t, t] })
    (base : Nat) (v : Value) (n m c B : Nat) (A : Option Addr) (xs news : List Value) (hs : a.eval s = v) (hown : w.ownsRow base e size v n xs)
    (hx : a.eval x = .slice A m c) (hl : news.length = m * size) (hr : Rd w B A news) (h1 : ∀ u ∈ news, u.oneCell' = true)
    (h63 : n + m ≤ 140737488355328) (hbytes : (n + m) * bytes ≤ 140737488355328) (hbase : base ≤ w.heap.size)
    (h : ∀ v' w', w'.ownsRow base e size v' (n + m) (xs ++ news) → w.grownBy w' v.ownBlock → (v'.ownBlock = v.ownBlock ∨ v'.ownBlock = some w.heap.size) → wpList P ops Q rest (a.put o.dst v') w') :
    wpList P ops Q (o :: rest) a w := by
  obtain ⟨i, hi, hz, hsz, hby⟩ := info_parts E.hi
  by_cases hm : m = 0
  · subst hm
    obtain rfl : news = [] := List.eq_nil_of_length_eq_zero (by simpa using hl)
    obtain ⟨A1, n1, c1, hv, hle⟩ : ∃ A1 n1 c1, v = .slice A1 n1 c1 ∧ n1 ≤ c1 := by
      rcases hown.2 with ⟨rfl, rfl⟩ | ⟨g, cap, cur, rfl, _, _, hn, _⟩
      · exact ⟨_, _, _, rfl, Nat.le_refl _⟩
      · exact ⟨_, _, _, rfl, hn⟩
    subst hv
    refine Lib.wpList_append_run w hgd s x t t ho _ _ hs hx _ w (run_app_zero E o.type w A1 n1 c1 hle A c) (h _ w ?_ ⟨rfl, rfl, rfl, Nat.le_refl _, fun _ _ _ => rfl⟩ (Or.inl rfl))
    rw [List.append_nil]; exact hown
  · have hne : news ≠ [] := by
      intro e0; subst e0
      have := E.hs
      have : 0 < m * size := Nat.mul_pos (by omega) this
      simp at hl; omega
    obtain ⟨b, off, rfl, hb, hc⟩ := hr hne
    refine wpList_append_own_at _ hgd s x t ho base e i z size bytes E.ht hi hz hsz hby E.hz E.hs v n xs hs hown ⟨b, off, none⟩ m c news hx hl (fun j u hu => ?_) h1 (by simp only [maxLen]; omega) hbytes hbase ?_
    · have hadd : (⟨b, off, none⟩ : Addr).add j = ⟨b, off + j, none⟩ := by unfold Addr.add; split <;> simp_all
      rw [hadd]; exact hc j u hu
    · intro v' w' h2 h3 _ h5
      exact h v' w' h2 h3 h5
end

theorem iv_one (l : List Int) : ∀ u ∈ iv l, u.oneCell' = true := by
  intro u hu
  unfold iv at hu
  rw [List.mem_map] at hu
  obtain ⟨x, _, rfl⟩ := hu
  rfl
end Go.Proofs.YtinejiodnnjpgaaDoor
