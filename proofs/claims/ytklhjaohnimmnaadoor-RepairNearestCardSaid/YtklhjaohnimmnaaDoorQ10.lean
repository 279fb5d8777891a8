/- append of whatever slice reads (nil too) to a row of the call's own. · slices.Grow from nil and slices.Concat of two lists of integers. -/
import Derived.Test.YtklhjaohnimmnaaDoorQ2
import Derived.Lib.AppendZeros
import Derived.Test.YtklhjaohnimmnaaDoorProg
import Derived.WalkSpells
import Derived.WalkLawsBesides
import Derived.Handy
namespace Go.Proofs.YtklhjaohnimmnaaDoor
open Go.RowKit
set_option linter.unusedVariables false
set_option linter.unusedSimpArgs false
set_option maxRecDepth 100000

section
variable {P : Program} {t e : TypeId} {size bytes : Nat} {z : Value}

theorem run_app_zero (E : ElTy P t e size bytes z) (ty : TypeId) (w : World) (A : Option Addr) (n cap : Nat) (hc : n ≤ cap) (A' : Option Addr) (c : Nat) :
    (Builtin.append_ #[t, t] ty #[.slice A n cap, .slice A' 0 c]).run P w = .ok (.slice A n cap) w := by
  obtain ⟨i, hi, hz, hsz, hby⟩ := info_parts E.hi
  cases A <;> cases A' <;> simp [Builtin.append_, run_underlying E.ht, sizeOf, typeInfo, hi, Builtin.lenOf, Builtin.firstCells, loadCells, loadCellsFrom, storeCells, hc]

theorem wpList_app_rd (E : ElTy P t e size bytes z) {ops : Array Oper} {rest : List Oper} {o : Oper} {a : Act} {Q : Exit → Act → World → Prop} {w : World} (hgd : o.guard = none) (s x : Operand)
    (ho : o.op = .call { callee := .builtin .append, args := #[s, x], argTypes := #[t, t] })
    (base : Nat) (v : Value) (n m c B : Nat) (A : Option Addr) (xs news : List Value) (hs : a.eval s = v) (hown : w.ownsRow base e size v n xs)
    (hx : a.eval x = .slice A m c) (hl : news.length = m * size) (hr : Rd w B A news) (h1 : ∀ u ∈ news, u.oneCell' = true)
    (h63 : n + m ≤ 140737488355328) (hbytes : (n + m) * bytes ≤ 140737488355328) (hbase : base ≤ w.heap.size)
    (h : ∀ v' w', w'.ownsRow base e size v' (n + m) (xs ++ news) → w.grownBy w' v.ownBlock → (v'.ownBlock = v.ownBlock ∨ v'.ownBlock = some w.heap.size) → wpList P ops Q rest (a.put o.dst v') w') :
    wpList P ops Q (o :: rest) a w := by
  obtain ⟨i, hi, hz, hsz, hby⟩ := info_parts E.hi
  by_cases hm : m = 0
  · subst hm
    obtain rfl : news = [] := List.eq_nil_of_length_eq_zero (by simpa using hl)
    obtain ⟨A1, n1, c1, hv, hle⟩ : ∃ A1 n1 c1, v = .slice A1 n1 c1 ∧ n1 ≤ c1 := by
      rcases hown.2 with ⟨rfl, rfl⟩ | ⟨g, cap, cur, rfl, _, _, hn, _⟩
      · exact ⟨_, _, _, rfl, Nat.le_refl _⟩
      · exact ⟨_, _, _, rfl, hn⟩
    subst hv
    refine Lib.wpList_append_run w hgd s x t t ho _ _ hs hx _ w (run_app_zero E o.type w A1 n1 c1 hle A c) (h _ w ?_ ⟨rfl, rfl, rfl, Nat.le_refl _, fun _ _ _ => rfl⟩ (Or.inl rfl))
    rw [List.append_nil]; exact hown
  · have hne : news ≠ [] := by
      intro e0; subst e0
      have := E.hs
      have : 0 < m * size := Nat.mul_pos (by omega) this
      simp at hl; omega
    obtain ⟨b, off, rfl, hb, hc⟩ := hr hne
    refine wpList_append_own_at _ hgd s x t ho base e i z size bytes E.ht hi hz hsz hby E.hz E.hs v n xs hs hown ⟨b, off, none⟩ m c news hx hl (fun j u hu => ?_) h1 (by simp only [maxLen]; omega) hbytes hbase ?_
    · have hadd : (⟨b, off, none⟩ : Addr).add j = ⟨b, off + j, none⟩ := by unfold Addr.add; split <;> simp_all
      rw [hadd]; exact hc j u hu
    · intro v' w' h2 h3 _ h5
      exact h v' w' h2 h3 h5
end

theorem iv_one (l : List Int) : ∀ u ∈ iv l, u.oneCell' = true := by
  intro u hu
  unfold iv at hu
  rw [List.mem_map] at hu
  obtain ⟨x, _, rfl⟩ := hu
  rfl
end Go.Proofs.YtklhjaohnimmnaaDoor
namespace Go.Proofs.YtklhjaohnimmnaaDoor
open Go.RowKit
set_option linter.unusedVariables false
set_option linter.unusedSimpArgs false
set_option maxRecDepth 100000

theorem elI : ElTy Tryd.prog 23 3 1 8 (.int .i64 0) := ⟨Tryd.underlying23, by kernel_rfl, rfl, by decide⟩

theorem grow_any (n : Nat) (w : World) (hn : n ≤ 1000000000) :
    Calls Tryd.prog 33 #[.slice none 0 0, .int .i64 n] w fun e w' => ∃ v', e = .returned v' ∧ w'.ownsRow w.heap.size 3 1 v' 0 [] ∧ Below w.heap.size w w' := by
  by_cases h0 : n = 0
  · subst h0
    go_enter Tryd.func33, Tryd.ntmps33
    go_wp2
    go_ret
    exact ⟨_, rfl, World.ownsRow_nil _ _ _ _, Below.refl _ _⟩
  · obtain ⟨i, hi, hz, hsz, hby⟩ := info_parts elI.hi
    go_enter Tryd.func33, Tryd.ntmps33
    go_wp2_with (at_builtin; (refine Lib.wpList_append_run _ rfl (.tmp 20) (.tmp 21) 23 3 rfl _ _ rfl rfl _ _ (Lib.run_append_nil_zeros _ 23 3 _ 3 i _ .i64 .i64 elI.ht (by kernel_rfl) hi hz n (by omega) (by omega) (by omega) (by rw [hby]; omega)) ?_))
    go_ret
    refine ⟨_, rfl, ⟨rfl, .inr ⟨w.heap.size, grownCap w n 0 3, _, rfl, Nat.le_refl _, heap_alloc_new w.drew _, by omega, grownCap_le_maxLen w n 0 3 (by unfold maxLen; omega), ?_, rfl⟩⟩, ?_⟩
    · have hge := grownCap_ge w n 0 3
      have e1 : (Value.int IntKind.i64 0).cells.size = 1 := rfl
      have e2 : (#[Value.int IntKind.i64 0] : Array Value).size = 1 := rfl
      simp only [Array.size_append, size_zeroCells, e1, e2, Nat.mul_one]
      omega
    · exact (Below.refl _ w).drew.alloc (Nat.le_refl _) _

theorem concat_any (A A' : Option Addr) (n c n' c' : Nat) (l l' : List Int) (g off cc : Nat) (w : World) (B : Nat) (hg : g < w.heap.size) (hc0 : w.cell? ⟨g, off, none⟩ = some (.slice A n c)) (hc1 : w.cell? ⟨g, off + 1, none⟩ = some (.slice A' n' c'))
    (h : RdI w B A l) (hl : l.length = n) (hm : n ≤ 100000000) (h' : RdI w B A' l') (hl' : l'.length = n') (hm' : n' ≤ 100000000) (hB : B ≤ w.heap.size) :
    Calls Tryd.prog 17 #[.slice (some ⟨g, off, none⟩) 2 cc] w fun e w' => ∃ v', e = .returned v' ∧ w'.ownsRow w.heap.size 3 1 v' (n + n') (iv (l ++ l')) ∧ Below w.heap.size w w' := by
  have hcall := grow_any (n + n') w (by omega)
  have HC := Lib.hid hcall; clear hcall
  go_enter Tryd.func17, Tryd.ntmps17
  go_wp2_with fail
  refine wp_loop_rounds 3 ?_
  rw [rounds_succ]
  go_wp2
  rw [rounds_succ]
  go_wp2
  rw [rounds_succ]
  go_wp2_with (go_at_call 33; refine HC.out.mono ?_; rintro e w' ⟨v', rfl, hown, hb⟩)
  have z0 : w'.cell? ⟨g, off, none⟩ = some (.slice A n c) := (hb.cell (p := ⟨g, off, none⟩) hg).trans hc0
  have z1 : w'.cell? ⟨g, off + 1, none⟩ = some (.slice A' n' c') := (hb.cell (p := ⟨g, off + 1, none⟩) hg).trans hc1
  have r1 : RdI w' B A l := h.below (hb.mono hB)
  have r2 : RdI w' B A' l' := h'.below (hb.mono hB)
  have O := Lib.hid hown; have R1 := Lib.hid r1; have R2 := Lib.hid r2; clear hown r1 r2 h h' hc0 hc1
  have ll := Lib.hid hl; have ll' := Lib.hid hl'; clear hl hl'
  refine wp_loop_rounds 3 ?_
  rw [rounds_succ]
  go_wp2_with (at_builtin; refine wpList_app_rd elI rfl (.tmp 31) (.tmp 32) rfl w.heap.size _ 0 n c B A [] (iv l) rfl O.out rfl (by rw [iv_len, ll.out]; omega) R1.out (iv_one l) (by omega) (by omega) hb.size ?_; intro v1 w1 hown1 hg1 hat1)
  have hb1 : Below w.heap.size w w1 := hb.grown hg1 hb.size (fun k hk => own_base O.out k hk)
  have r2 : RdI w1 B A' l' := (RdI.below R2.out ((Below.refl _ w').grown hg1 (Nat.le_trans hB hb.size) (fun k hk => Nat.le_trans hB (own_base O.out k hk))))
  have z1 : w1.cell? ⟨g, off + 1, none⟩ = some (.slice A' n' c') := by
    have q : Below w.heap.size w' w1 := (Below.refl _ w').grown hg1 hb.size (fun k hk => own_base O.out k hk)
    exact (q.cell (p := ⟨g, off + 1, none⟩) hg).trans z1
  have R2' := Lib.hid r2; have O1 := Lib.hid hown1; clear r2 hown1
  rw [rounds_succ]
  go_wp2_with (at_builtin; refine wpList_app_rd elI rfl (.tmp 31) (.tmp 32) rfl w.heap.size _ (0 + n) n' c' B A' _ (iv l') rfl O1.out rfl (by rw [iv_len, ll'.out]; omega) R2'.out (iv_one l') (by omega) (by omega) hb1.size ?_; intro v2 w2 hown2 hg2 hat2)
  have hb2 : Below w.heap.size w w2 := hb1.grown hg2 hb1.size (fun k hk => own_base O1.out k hk)
  have O2 := Lib.hid hown2; clear hown2
  rw [rounds_succ]
  go_wp2
  go_ret
  refine ⟨_, rfl, ?_, hb2⟩
  have := O2.out
  rw [Nat.zero_add, List.nil_append] at this
  have e : iv (l ++ l') = iv l ++ iv l' := List.map_append
  rw [e]; exact this
end Go.Proofs.YtklhjaohnimmnaaDoor
