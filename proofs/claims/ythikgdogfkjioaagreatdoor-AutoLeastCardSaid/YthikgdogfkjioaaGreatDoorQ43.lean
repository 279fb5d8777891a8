/- auto.minimal, walked. -/
import Derived.Test.YthikgdogfkjioaaGreatDoorQ36
import Derived.Test.YthikgdogfkjioaaGreatDoorQ38
import Derived.Test.YthikgdogfkjioaaGreatDoorQ39
import Derived.Test.YthikgdogfkjioaaGreatDoorQ40
import Derived.Test.YthikgdogfkjioaaGreatDoorQ16
import Derived.Test.YthikgdogfkjioaaGreatDoorQ41
import Derived.Test.YthikgdogfkjioaaGreatDoorQ42
namespace Go.Proofs.YthikgdogfkjioaaGreatDoor
open Go.RowKit BigFrame Go.Maps
set_option linter.unusedVariables false
set_option linter.unusedSimpArgs false
set_option maxRecDepth 100000

/-- A dense automaton's lists: N states, K classes. -/
structure Dn (RU : List Int) (MV : List (List Int)) (N K : Nat) (ru : Nat → Int) (mv : Nat → Nat → Nat) : Prop where
  lr : RU.length = N
  lm : MV.length = N
  row : ∀ s, s < N → (nthL MV s).length = K
  eq : ∀ s, s < N → nth RU s = ru s
  mv : ∀ s c, s < N → c < K → nth (nthL MV s) c = (mv s c : Int) ∧ mv s c < N
  wf : ∀ s, s < N → wfI (ru s)
/-- What parting finds. -/
structure Mini (ru : Nat → Int) (mv : Nat → Nat → Nat) (N K : Nat) (O : List Nat) (part : Nat → Nat) (count : Nat) : Prop where
  pr : PartsR ru mv K O.length (oAt O) (fun t => O.idxOf t) part
  pos : 0 < O.length
  zero : oAt O 0 = 0
  le : ∀ s ∈ O, s < N
  lt : ∀ i, i < O.length → part i < count
  on : ∀ v, v < count → ∃ i, i < O.length ∧ part i = v
  len : O.length ≤ N
  z : part 0 = 0
def minR (ru : Nat → Int) (O : List Nat) (part : Nat → Nat) (count : Nat) : List Int := (List.range count).map fun k => ru (oAt O (fstOf O.length part k))
def minRow (mv : Nat → Nat → Nat) (K : Nat) (O : List Nat) (part : Nat → Nat) (k : Nat) : List Int := (List.range K).map fun c => ((part (O.idxOf (mv (oAt O (fstOf O.length part k)) c)) : Nat) : Int)
def minM (mv : Nat → Nat → Nat) (K : Nat) (O : List Nat) (part : Nat → Nat) (count : Nat) : List (List Int) := (List.range count).map (minRow mv K O part)

/-- The rules of the first i states of the order. -/
def rlO (ru : Nat → Int) (O : List Nat) (i : Nat) : List Int := (List.range i).map fun j => ru (oAt O j)
theorem rlO_snoc {ru : Nat → Int} {O : List Nat} {i : Nat} : rlO ru O (i + 1) = rlO ru O i ++ [ru (oAt O i)] := range_snoc _ _

theorem mk_rows {n : Nat} (hn : n ≤ 1000000) (w : World) : (Instr.makeSlice 41 (.int .i64 (n : Int)) (.int .i64 (n : Int))).run Tryz.prog w = .ok (.slice (some ⟨w.heap.size, 0, none⟩) n n) (w.alloc (.cells (zs (.slice none 0 0) n) 34)) :=
  mk_row elRows rfl .i64 .i64 n _ (by omega) (by omega) (by omega) w
theorem dec_len2 {n : Nat} (h : n < 100) : (Lib.decDigits n).length ≤ 2 := by
  by_cases q : n < 10
  · rw [Lib.decDigits_one q]; simp
  · rw [Lib.decDigits_two q h]; simp
theorem keyT_snoc {k x : Nat} {l : List Nat} : keyT (k, l ++ [x]) = keyT (k, l) ++ 44 :: Lib.decDigits x := by
  unfold keyT; simp [List.flatMap_append]
theorem keyT_len {k : Nat} (hk : k < 100) : ∀ {l : List Nat}, (∀ x ∈ l, x < 100) → (keyT (k, l)).length ≤ 2 + 3 * l.length := by
  intro l
  refine rev_ind (P := fun l => (∀ x ∈ l, x < 100) → (keyT (k, l)).length ≤ 2 + 3 * l.length) (fun _ => ?_) (fun l x ih h => ?_) l
  · have := dec_len2 hk; unfold keyT; simp; exact this
  · have h1 := ih (fun y hy => h y (List.mem_append_left _ hy))
    have h2 := dec_len2 (h x (by simp))
    rw [keyT_snoc]
    simp only [List.length_append, List.length_cons, List.length_nil]
    omega
theorem bytes_cat (a b : List UInt8) : ((⟨a.toArray⟩ : ByteArray) ++ ((⟨#[44]⟩ : ByteArray) ++ (⟨b.toArray⟩ : ByteArray))) = ⟨(a ++ 44 :: b).toArray⟩ := by
  apply ByteArray.ext
  simp [ByteArray.data_append]
/-- The texts of the first i states' keys. -/
def ktO (mv : Nat → Nat → Nat) (K : Nat) (O : List Nat) (part : Nat → Nat) (i : Nat) : List (List UInt8) := (List.range i).map fun j => keyT (keyF mv K (oAt O) (fun t => O.idxOf t) part j)
theorem nextF_zero {mv : Nat → Nat → Nat} {K m : Nat} {o at_ part : Nat → Nat} (hm : 0 < m) : nextF mv K m o at_ part 0 = 0 := by
  unfold nextF keysL
  obtain ⟨m, rfl⟩ : ∃ k, m = k + 1 := ⟨m - 1, by omega⟩
  rw [numK_range (fun i => keyF mv K o at_ part i) (i := 0) (by omega)]
  simp [numK, distinct, addK]
theorem ktO_snoc {mv : Nat → Nat → Nat} {K i : Nat} {O : List Nat} {part : Nat → Nat} : ktO mv K O part (i + 1) = ktO mv K O part i ++ [keyT (keyF mv K (oAt O) (fun t => O.idxOf t) part i)] := range_snoc _ _
theorem ktO_keys {mv : Nat → Nat → Nat} {K m : Nat} {O : List Nat} {part : Nat → Nat} : ktO mv K O part m = (keysL mv K m (oAt O) (fun t => O.idxOf t) part).map keyT := by
  unfold ktO keysL; rw [List.map_map]; rfl
theorem ktO_num {mv : Nat → Nat → Nat} {K m : Nat} {O : List Nat} {part : Nat → Nat} (j : Nat) : numK (ktO mv K O part m) (keyT (keyF mv K (oAt O) (fun t => O.idxOf t) part j)) = nextF mv K m (oAt O) (fun t => O.idxOf t) part j := by
  rw [ktO_keys, numK_map (fun a b h => keyT_inj h)]; rfl
theorem ktO_len {mv : Nat → Nat → Nat} {K m : Nat} {O : List Nat} {part : Nat → Nat} : (distinct (ktO mv K O part m)).length = (distinct (keysL mv K m (oAt O) (fun t => O.idxOf t) part)).length := by
  rw [ktO_keys, distinct_map (fun a b h => keyT_inj h), List.length_map]
set_option maxHeartbeats 16000000 in
theorem minimal_any (Ar Am : Option Addr) (N K cr cm : Nat) (RU : List Int) (MV : List (List Int)) (ru : Nat → Int) (mv : Nat → Nat → Nat) (w : World) (B : Nat) (hB : B ≤ w.heap.size) (hR : RdI w B Ar RU) (hM : RdM w B Am MV) (hD : Dn RU MV N K ru mv)
    (hcr : N ≤ cr ∧ cr ≤ maxLen) (hcm : N ≤ cm ∧ cm ≤ maxLen) (hN : 0 < N) (hN2 : N ≤ 60) (hK : K ≤ 1000) :
    Calls Tryz.prog 13 #[.agg #[.int .i64 (K : Int), .slice Ar N cr, .slice Am N cm]] w fun e w' => ∃ O part count Ar' Am' cr' cm', e = .returned (.agg #[.int .i64 (K : Int), .slice Ar' count cr', .slice Am' count cm']) ∧ Mini ru mv N K O part count ∧ count ≤ cr' ∧ cr' ≤ maxLen ∧ count ≤ cm' ∧ cm' ≤ maxLen ∧
      RdI w' w'.heap.size Ar' (minR ru O part count) ∧ RdM w' w'.heap.size Am' (minM mv K O part count) ∧ Below w.heap.size w w' := by
  obtain ⟨W0, hW0⟩ : ∃ W0, W0 = (w.alloc (.cells #[.int .i64 (K : Int), .slice Ar N cr, .slice Am N cm] 43)).alloc (.cells #[.int .i64 0, .slice none 0 0, .slice none 0 0] 43) := ⟨_, rfl⟩
  obtain ⟨g, hg⟩ : ∃ g, w.heap.size = g := ⟨_, rfl⟩
  have hs0 : W0.heap.size = g + 1 + 1 := by rw [hW0, ← hg]; simp
  have hb0 : Below g w W0 := by rw [hW0, ← hg]; exact ((Below.refl _ _).alloc (Nat.le_refl _) _).alloc (by simp) _
  have hkd : Blk W0 g 43 [.int .i64 (K : Int), .slice Ar N cr, .slice Am N cm] := by
    rw [hW0, ← hg]
    exact (Blk.new w 43 [.int .i64 (K : Int), .slice Ar N cr, .slice Am N cm]).alloc _
  have hkr : Blk W0 (g + 1) 43 [.int .i64 0, .slice none 0 0, .slice none 0 0] := by
    have := Blk.new (w.alloc (.cells #[.int .i64 (K : Int), .slice Ar N cr, .slice Am N cm] 43)) 43 [.int .i64 0, .slice none 0 0, .slice none 0 0]
    rw [show (w.alloc (.cells #[.int .i64 (K : Int), .slice Ar N cr, .slice Am N cm] 43)).heap.size = g + 1 by rw [← hg]; simp] at this
    rw [hW0]; exact this
  obtain ⟨W1, hW1⟩ : ∃ W1, W1 = (W0.alloc (.cells #[.int .i64 0] 3)).alloc (.map #[] 0) := ⟨_, rfl⟩
  have hm1 : IMap W1 (g + 1 + 1 + 1) 0 (fun _ => none) := by
    have := IMap.made (W0.alloc (.cells #[.int .i64 0] 3))
    rw [show (W0.alloc (.cells #[.int .i64 0] 3)).heap.size = g + 1 + 1 + 1 by rw [World.size_alloc, hs0]] at this
    rw [hW1]; exact this
  have hk1 : Blk W1 (g + 1 + 1) 3 [.int .i64 0] := by
    have := (Blk.new W0 3 [.int .i64 0]).alloc (.map #[] 0)
    rw [hs0] at this
    rw [hW1]; exact this
  have hb1 : Below (g + 1 + 1) W0 W1 := by rw [hW1]; exact ((Below.refl _ _).alloc (by omega) _).alloc (by rw [World.size_alloc]; omega) _
  obtain ⟨W2, hput, hm2, hg2⟩ := hm1.put (x := 0) (wfI_nat (a := 0) (by omega)) (v := 0) (by omega) (by omega)
  have hput : (Instr.mapUpdate 59 (.map (some (g + 1 + 1 + 1))) (.int .i64 0) (.int .i64 0)).run Tryz.prog W1 = .ok () W2 := hput
  have HRC : Hid (Rc W0 W2 (g + 1 + 1) (g + 1 + 1 + 1) 1 (.slice (some ⟨g + 1 + 1, 0, none⟩) 1 1) [0]) := Lib.hid ⟨hb1.grown hg2 (by have := hk1.lt; omega) (fun k e => by cases e; omega), (Blk.own (l := [0]) (hk1.grown hg2 (by simp)) (Nat.le_refl _) (by decide)), hm2.congr (fun x _ => by
    unfold idxI
    by_cases e : x = 0
    · subst e; simp
    · rw [if_neg e]; simp; omega), Nat.le_succ _, by have := hk1.lt; have := hg2.size; omega⟩
  have hmk := @run_makeMap Tryz.prog
  have HB0 := Lib.hid hb0; have HG := Lib.hid hg; have HS0 := Lib.hid hs0; have HKR := Lib.hid hkr; have HKD := Lib.hid hkd; have HDN := Lib.hid hD
  have HRI : Hid (∀ W, Below (g + 1 + 1) W0 W → RdI W B Ar RU) := Lib.hid (fun W h => RdI.below hR ((hb0.trans (h.mono (by omega))).mono (by omega)))
  have HRM : Hid (∀ W, Below (g + 1 + 1) W0 W → RdM W B Am MV) := Lib.hid (fun W h => hM.below ((hb0.trans (h.mono (by omega))).mono (by omega)))
  have hBg : B ≤ g := by omega
  obtain ⟨hcr1, hcr2⟩ := hcr
  obtain ⟨hcm1, hcm2⟩ := hcm
  unfold maxLen at hcr2 hcm2
  clear hR hM hD hb0 hkr hkd hm1 hk1 hb1 hm2 hg2
  rw [hW1, hW0] at hput
  go_enter Tryz.func13, Tryz.ntmps13
  go_wp2_with fail
  clear hput hW0 hW1 hmk hg
  go_loopw [3, 5] (fun vo i wr => ∃ (k : Nat) (O : List Nat), k ≤ O.length ∧ i = .int .i64 (k : Int) ∧ Hid (Rc W0 wr (g + 1 + 1) (g + 1 + 1 + 1) O.length vo O) ∧ Hid (RcI mv K (N - 1) O k 0)) (fun _ i _ => N + 1 - (intOf i).toNat)
  case atStart => exact ⟨0, [0], by simp, rfl, HRC, Lib.hid RcI.start⟩
  case round =>
    as_aux_lemma =>
      clear HRC
      obtain ⟨k, O, hk, rfl, HC, HI⟩ := hrel
      obtain ⟨Ao, co, rfl, ho1, ho2, hoc⟩ := HC.out.at_
      have hOl : O.length ≤ N := by have := HI.out.length; omega
      have HOC := Lib.hid hoc
      obtain ⟨m, hm⟩ : ∃ m, m = O.length := ⟨_, rfl⟩
      have HM := Lib.hid hm
      rw [← hm] at ho1 hOl hk ⊢
      unfold maxLen at ho2
      clear hoc hm
      by_cases hlt : k < m
      · as_aux_lemma =>
          have d1 : decide ((k : Int) < (m : Int)) = true := decide_eq_true (by omega)
          obtain ⟨ob, rfl, hob1, hob2, hob3, hobc⟩ := HOC.out (by rw [← HM.out]; omega)
          have q0 := hobc k (by rw [← HM.out]; exact hlt)
          have hsN : oAt O k < N := by
            have := HI.out.le (oAt O k) (by rw [oAt_get (by rw [← HM.out]; exact hlt)]; exact List.getElem_mem _)
            omega
          obtain ⟨s, hs⟩ : ∃ s, s = oAt O k := ⟨_, rfl⟩
          rw [← hs] at q0 hsN
          have hkdr := HKD.out.below HC.out.b (by omega)
          have z0 := hkdr.cell (i := 2) rfl
          obtain ⟨mb, mo, rfl, hmb, hmc⟩ := HRM.out W0 (Below.refl _ _) (by rw [HDN.out.lm]; exact hN)
          obtain ⟨Ar', cr', z1, z2, z3, z4⟩ := hmc s (by rw [HDN.out.lm]; exact hsN)
          rw [HDN.out.row s hsN] at z1 z2
          have z1 := (HC.out.b.cell (p := ⟨mb, mo + s, none⟩) (show mb < _ by omega)).trans z1
          have hk60 : k < 60 := by omega
          have HSO := Lib.hid hs; have HR4 := Lib.hid z4
          unfold maxLen at z3
          clear hs hobc hkdr hmc z4
          go_wp2_with fail
          go_quiet (fail)
          rename_i nq _ _
          obtain ⟨wd, hwd⟩ : ∃ wd, wd = wr.drewN nq := ⟨_, rfl⟩
          have hbd : Below wr.heap.size wr wd := by rw [hwd]; exact ⟨rfl, rfl, rfl, Nat.le_refl _, fun _ _ => rfl⟩
          have HC1 := Lib.hid (HC.out.ext hbd)
          have HKO : Hid (k < O.length ∧ oAt O k = s) := Lib.hid ⟨by rw [← HM.out]; exact hlt, HSO.out.symm⟩
          have HIO := HI
          rw [← hwd]
          clear hbd z0 z1 q0 HOC HC hwd
          go_wp2_with fail
          go_loopw [3, 51] (fun vo i wr => ∃ (c : Nat) (O : List Nat), c ≤ K ∧ i = .int .i64 (c : Int) ∧ Hid (Rc W0 wr (g + 1 + 1) (g + 1 + 1 + 1) O.length vo O) ∧ Hid (RcI mv K (N - 1) O k c) ∧ Hid (k < O.length ∧ oAt O k = s)) (fun _ i _ => K - (intOf i).toNat)
          case atStart => exact ⟨0, O, Nat.zero_le _, rfl, by rw [HM.out]; exact HC1, HI, HKO⟩
          case round =>
            as_aux_lemma =>
              clear HC1 HI HKO HIO HM ho1 ho2 hob1 hob2 hob3 hlt hk hOl HSO
              obtain ⟨c, O2, hc, rfl, HC, HI, HKO⟩ := hrel
              obtain ⟨Ao, co2, rfl, ho1, ho2, -⟩ := HC.out.at_
              have hOl : O2.length ≤ N := by have := HI.out.length; omega
              obtain ⟨m2, hm⟩ : ∃ m2, m2 = O2.length := ⟨_, rfl⟩
              rw [← hm] at ho1 hOl HC ⊢
              have HM := Lib.hid hm
              unfold maxLen at ho2
              clear hm
              by_cases hcK : c < K
              · as_aux_lemma =>
                  have d2 : decide ((c : Int) < (K : Int)) = true := decide_eq_true (by omega)
                  obtain ⟨rb, ro, rfl, hrb, hrc⟩ := (RdI.below HR4.out (HC.out.b.mono (show B ≤ g + 1 + 1 by omega))).at_ (by rw [HDN.out.row s hsN]; omega)
                  have y0 := hrc c (by rw [HDN.out.row s hsN]; exact hcK)
                  obtain ⟨e1, hte⟩ := HDN.out.mv s c hsN hcK
                  rw [e1] at y0
                  obtain ⟨tt, htt⟩ : ∃ tt, tt = mv s c := ⟨_, rfl⟩
                  rw [← htt] at y0 hte
                  have hmvo : mv (oAt O2 k) c = tt := by rw [HKO.out.2, htt]
                  have hwt : wfI (tt : Int) := wfI_nat (by omega)
                  have lk := HC.out.m.look2 hwt
                  rw [idxI_nat] at lk
                  have HTT := Lib.hid hmvo
                  clear hrc e1 htt hmvo
                  by_cases hin : tt ∈ O2
                  · as_aux_lemma =>
                      rw [if_pos hin] at lk
                      simp only [Option.getD_some, Option.isSome_some] at lk
                      have HI2 := Lib.hid (HI.out.seen (by rw [HTT.out]; exact hin))
                      clear hin HI
                      go_wp2_with fail
                      go_roundw
                      case rel => exact ⟨c + 1, O2, by omega, by go_num, by rw [← HM.out]; exact HC, HI2, HKO⟩
                      case measure => simp [intOf]; omega
                  · as_aux_lemma =>
                      rw [if_neg hin] at lk
                      simp only [Option.getD_none, Option.isSome_none] at lk
                      have hI2 := HI.out.push HKO.out.1 (by rw [HTT.out]; exact hin) (by rw [HTT.out]; omega)
                      rw [HTT.out] at hI2
                      have HI2 := Lib.hid hI2
                      have HKO2 : Hid (k < (O2 ++ [tt]).length ∧ oAt (O2 ++ [tt]) k = s) := Lib.hid ⟨by have := HKO.out.1; simp; omega, by rw [oAt_snoc HKO.out.1]; exact HKO.out.2⟩
                      obtain ⟨w3, hput, hm3, hg3⟩ := HC.out.m.put hwt (v := m2) (by omega) (by omega)
                      rw [HM.out] at hm3
                      have hrc2 := HC.out
                      rw [HM.out] at hrc2
                      obtain ⟨p1, p2, p3⟩ := hrc2.push hin hm3 hg3
                      rw [← HM.out] at p1 p3
                      have HP1 := Lib.hid p1; have HP2 := Lib.hid p2; have HP3 := Lib.hid p3
                      clear hI2 hm3 hg3 hrc2 p1 p2 p3 HI HC hin
                      go_wp2_with (at_builtin; go_must (refine wpList_app elIn rfl (.tmp 67) (.tmp 69) rfl (g + 1 + 1) _ m2 1 (nv O2) [.int .i64 (tt : Int)] rfl HP1.out rfl rfl (by simp [Value.oneCell']) (by omega) (by omega) HP2.out ?_); intro v5 w5 hown5 hg5 hat5; have HC5 := Lib.hid (HP3.out _ _ hg5 hown5); clear hown5 hg5 hat5)
                      go_roundw
                      case rel => exact ⟨c + 1, O2 ++ [tt], by omega, by go_num, Lib.hid (by have h := HC5.out; rw [show (O2 ++ [tt]).length = m2 + 1 by rw [List.length_append, ← HM.out]; rfl]; exact h), HI2, HKO2⟩
                      case measure => simp [intOf]; omega
              · as_aux_lemma =>
                  have d2 : decide ((c : Int) < (K : Int)) = false := decide_eq_false (by omega)
                  obtain rfl : c = K := by omega
                  have HI2 := Lib.hid HI.out.next
                  clear HI
                  go_wp2_with fail
                  go_roundw
                  case rel => exact ⟨k + 1, O2, by have := HKO.out.1; omega, by go_num, by rw [← HM.out]; exact HC, HI2⟩
                  case measure => simp [intOf]; have h1 := HKO.out.1; have h2 := HM.out; omega
      · as_aux_lemma =>
          have d1 : decide ((k : Int) < (m : Int)) = false := decide_eq_false (by omega)
          have hkm : k = O.length := by rw [← HM.out]; omega
          have hI := HI.out
          rw [hkm] at hI
          have hat := hI.done
          have hpos : 0 < m := by rw [HM.out]; exact hI.pos
          obtain ⟨ob, rfl, hob1, hob2, hob3, hobc⟩ := HOC.out hI.pos
          have HOD : Hid (∀ i, i < m → wr.cell? ⟨ob, i, none⟩ = some (.int .i64 ((oAt O i : Nat) : Int)) ∧ oAt O i < N) := Lib.hid (fun i hi => ⟨hobc i (by rw [← HM.out]; exact hi), by
            have := hI.le (oAt O i) (by rw [oAt_get (by rw [← HM.out]; exact hi)]; exact List.getElem_mem _)
            omega⟩)
          rw [← HM.out] at hat
          have HAT := Lib.hid hat
          have HZE := Lib.hid hI.zero
          have HLE : Hid (∀ s ∈ O, s < N) := Lib.hid (fun s hs => by have := hI.le s hs; omega)
          have HIM := Lib.hid HC.out.m
          have HWO := Lib.hid HC.out.b
          obtain ⟨wo, rfl⟩ : ∃ wo : World, wo = wr := ⟨_, rfl⟩
          obtain ⟨gp, hgp⟩ : ∃ gp, gp = wo.heap.size := ⟨_, rfl⟩
          have hgg : g + 1 + 1 + 1 < gp := by rw [hgp]; exact HC.out.m.lt
          have hobg : ob < gp := by omega
          have hkdo := HKD.out.below HC.out.b (by omega)
          have HKDO := Lib.hid hkdo; have HGP := Lib.hid hgp
          have z1 := hkdo.cell (i := 1) rfl
          have hmi := fun w => mk_ints (n := m) (by omega) w
          have hmk := @run_makeMap Tryz.prog
          have hmO : m ≤ 60 := by omega
          have hmN : m ≤ N := by omega
          obtain ⟨W3, hW3⟩ : ∃ W3, W3 = (wo.alloc (.cells (zs (.int .i64 0) m) 3)).alloc (.map #[] 0) := ⟨_, rfl⟩
          have hs3 : W3.heap.size = gp + 1 + 1 := by rw [hW3, hgp]; simp
          have hb3 : Below gp wo W3 := by rw [hW3, hgp]; exact ((Below.refl _ _).alloc (Nat.le_refl _) _).alloc (by simp) _
          have hbl3 : Blk W3 gp 3 (iv (List.replicate m 0)) := by rw [hW3, hgp, ← iv_rep]; exact (Blk.made wo 3 (.int .i64 0) m).alloc _
          have him3 : IMap W3 (gp + 1) 0 (numO (rlO ru O 0)) := by
            have := IMap.made (wo.alloc (.cells (zs (.int .i64 0) m) 3))
            rw [show (wo.alloc (.cells (zs (.int .i64 0) m) 3)).heap.size = gp + 1 by rw [hgp]; simp] at this
            rw [hW3]; exact this
          have HB3 := Lib.hid hb3; have HBL3 := Lib.hid hbl3; have HIM3 := Lib.hid him3; have HS3 := Lib.hid hs3
          clear hkm hI hat hobc hkdo hb3 hbl3 him3 hs3 HOC HI HC hk
          go_wp2_with fail
          rw [← hgp, ← hW3]
          clear hW3 hmi hmk z1 hgp
          go_loopw [11, 78] (fun cv i wr => ∃ (i' : Nat) (L : List Int), i' ≤ m ∧ cv = .int .i64 ((distinct (rlO ru O i')).length : Int) ∧ i = .int .i64 (i' : Int) ∧ Hid (Kp (fun q => q = gp ∨ q = gp + 1) W3 wr) ∧ Hid (Blk wr gp 3 (iv L)) ∧ Hid (∃ n, n ≤ i' ∧ IMap wr (gp + 1) n (numO (rlO ru O i'))) ∧ Hid (L.length = m ∧ ∀ j, j < i' → nth L j = ((numK (rlO ru O m) (ru (oAt O j)) : Nat) : Int))) (fun _ i _ => m - (intOf i).toNat)
          case atStart => exact ⟨0, _, Nat.zero_le _, rfl, rfl, Kp.refl _ _, HBL3, Lib.hid ⟨0, Nat.le_refl _, HIM3.out⟩, Lib.hid ⟨List.length_replicate, fun j h => absurd h (by omega)⟩⟩
          case round =>
            as_aux_lemma =>
              clear HBL3 HIM3
              obtain ⟨i, L, hi, rfl, rfl, HKP, HBL, HMP, HL⟩ := hrel
              have hdl : (distinct (rlO ru O i)).length ≤ i := by have := distinct_le (rlO ru O i); unfold rlO at this ⊢; simpa using this
              obtain ⟨dn, hdn⟩ : ∃ dn, dn = (distinct (rlO ru O i)).length := ⟨_, rfl⟩
              rw [← hdn] at hdl ⊢
              have HDL := Lib.hid hdn
              clear hdn
              have hz3 := HS3.out
              have hgw : gp + 1 + 1 ≤ wr.heap.size := by have := HKP.out.size; omega
              have hcx : Hid (∀ q : Addr, q.block < gp → wr.cell? q = wo.cell? q) := Lib.hid (fun q h1 => (HKP.out.cell (p := q) (by omega) (by omega)).trans (HB3.out.cell h1))
              by_cases him : i < m
              · as_aux_lemma =>
                  have d2 : decide ((i : Int) < (m : Int)) = true := decide_eq_true (by omega)
                  obtain ⟨c1, hsN⟩ := HOD.out i him
                  have y0 := (hcx.out ⟨ob, i, none⟩ (show ob < gp by omega)).trans c1
                  have y1 := (hcx.out ⟨g, 1, none⟩ (show g < gp by omega)).trans (HKDO.out.cell (i := 1) rfl)
                  obtain ⟨rb, ro, rfl, hrb, hrc⟩ := (HRI.out wo HWO.out).at_ (by rw [HDN.out.lr]; exact hN)
                  have c3 := hrc (oAt O i) (by rw [HDN.out.lr]; exact hsN)
                  rw [HDN.out.eq _ hsN] at c3
                  have y3 := (hcx.out ⟨rb, ro + oAt O i, none⟩ (show rb < gp by omega)).trans c3
                  have hwt := HDN.out.wf _ hsN
                  obtain ⟨n, hn, him2⟩ := HMP.out
                  have lk := him2.look2 hwt
                  have hsn := @rlO_snoc ru O i
                  have hfin : numK (rlO ru O m) (ru (oAt O i)) = numK (rlO ru O (i + 1)) (ru (oAt O i)) := numK_range (fun j => ru (oAt O j)) him
                  obtain ⟨s, hs⟩ : ∃ s, s = oAt O i := ⟨_, rfl⟩
                  obtain ⟨rr, hrr⟩ : ∃ rr, rr = ru s := ⟨_, rfl⟩
                  rw [← hs] at y0 y3 lk hwt hsn hfin c1 hsN
                  rw [← hrr] at y3 lk hwt hsn hfin
                  have y5 := HBL.out.icell (k := i) (by rw [HL.out.1]; exact him)
                  have y6 := HBL.out.frozen i
                  generalize nth L i = o1 at *
                  have HS := Lib.hid (show rr = ru (oAt O i) by rw [hrr, hs])
                  have HSN := Lib.hid hsn; have HFIN := Lib.hid hfin; have HIM2 := Lib.hid him2
                  clear hrc c1 c3 hs hrr hsn hfin him2 hz3
                  by_cases hin : rr ∈ rlO ru O i
                  · as_aux_lemma =>
                      have e1 : numO (rlO ru O i) rr = some (numK (rlO ru O i) rr) := by unfold numO; rw [if_pos hin]
                      rw [e1] at lk
                      simp only [Option.getD_some, Option.isSome_some] at lk
                      have e2 : numK (rlO ru O m) rr = numK (rlO ru O i) rr := by rw [HFIN.out, HSN.out, numK_append hin]
                      obtain ⟨kk, hkk⟩ : ∃ kk, kk = numK (rlO ru O i) rr := ⟨_, rfl⟩
                      rw [← hkk] at lk e2
                      have HL2 : Hid ((L.set i (kk : Int)).length = m ∧ ∀ j, j < i + 1 → nth (L.set i (kk : Int)) j = ((numK (rlO ru O m) (ru (oAt O j)) : Nat) : Int)) := Lib.hid ⟨by rw [List.length_set]; exact HL.out.1, fun j hj => by
                        rw [nth_set (by rw [HL.out.1]; exact him)]
                        by_cases e : i = j
                        · subst e; rw [if_pos rfl, ← HS.out, e2]
                        · rw [if_neg e]; exact HL.out.2 j (by omega)⟩
                      have HDL2 : Hid (dn = (distinct (rlO ru O (i + 1))).length) := Lib.hid (by rw [HSN.out, distinct_old hin]; exact HDL.out)
                      have HIM4 : Hid (∃ n, n ≤ i + 1 ∧ IMap (wr.setCell ⟨gp, i, none⟩ (.int .i64 (kk : Int))) (gp + 1) n (numO (rlO ru O (i + 1)))) := Lib.hid ⟨n, by omega, (HIM2.out.set_ (a := ⟨gp, i, none⟩) (by show gp + 1 ≠ gp; omega) _).congr (fun x _ => by rw [HSN.out, numO_old hin])⟩
                      clear e1 e2 hkk hin
                      go_wp2_with fail
                      go_roundw
                      case rel => exact ⟨i + 1, _, by omega, by rw [← HDL2.out], by go_num, Lib.hid (HKP.out.set_ (p := ⟨gp, i, none⟩) (.inr (.inl rfl)) _), Lib.hid (HBL.out.iset i (kk : Int)), HIM4, HL2⟩
                      case measure => simp [intOf]; omega
                  · as_aux_lemma =>
                      have e1 : numO (rlO ru O i) rr = none := by unfold numO; rw [if_neg hin]
                      rw [e1] at lk
                      simp only [Option.getD_none, Option.isSome_none] at lk
                      have e2 : numK (rlO ru O m) rr = dn := by rw [HFIN.out, HSN.out, numK_new hin, ← HDL.out]
                      obtain ⟨w5, hput, hm5, hg5⟩ := HIM2.out.put hwt (v := dn) (by omega) (by omega)
                      have hbl5 := HBL.out.grown hg5 (by simp)
                      have y5 := (World.cell?_of_block (w := wr) (a := ⟨gp, i, none⟩) (hg5.block gp (by omega) (by simp))).trans y5
                      have y6 := hbl5.frozen i
                      have y1 : w5.cell? ⟨g, 1, none⟩ = _ := (World.cell?_of_block (w := wr) (a := ⟨g, 1, none⟩) (hg5.block g (by omega) (by simp; omega))).trans y1
                      have HL2 : Hid ((L.set i (dn : Int)).length = m ∧ ∀ j, j < i + 1 → nth (L.set i (dn : Int)) j = ((numK (rlO ru O m) (ru (oAt O j)) : Nat) : Int)) := Lib.hid ⟨by rw [List.length_set]; exact HL.out.1, fun j hj => by
                        rw [nth_set (by rw [HL.out.1]; exact him)]
                        by_cases e : i = j
                        · subst e; rw [if_pos rfl, ← HS.out, e2]
                        · rw [if_neg e]; exact HL.out.2 j (by omega)⟩
                      have HDL2 : Hid (dn + 1 = (distinct (rlO ru O (i + 1))).length) := Lib.hid (by rw [HSN.out, distinct_new hin, List.length_append, ← HDL.out]; rfl)
                      have HIM4 : Hid (∃ n, n ≤ i + 1 ∧ IMap (w5.setCell ⟨gp, i, none⟩ (.int .i64 (dn : Int))) (gp + 1) n (numO (rlO ru O (i + 1)))) := Lib.hid ⟨n + 1, by omega, (hm5.set_ (a := ⟨gp, i, none⟩) (by show gp + 1 ≠ gp; omega) _).congr (fun x _ => by rw [HSN.out, numO_new hin, ← HDL.out])⟩
                      have HKP5 := Lib.hid ((HKP.out.grown hg5 (fun q e => by cases e; exact .inr (.inr rfl))).set_ (p := ⟨gp, i, none⟩) (.inr (.inl rfl)) (.int .i64 (dn : Int)))
                      have HBL5 := Lib.hid (hbl5.iset i (dn : Int))
                      clear e1 e2 hin hm5 hg5 hbl5
                      go_wp2_with fail
                      go_roundw
                      case rel => exact ⟨i + 1, _, by omega, by rw [← HDL2.out]; go_num, by go_num, HKP5, HBL5, HIM4, HL2⟩
                      case measure => simp [intOf]; omega
              · as_aux_lemma =>
                  have d2 : decide ((i : Int) < (m : Int)) = false := decide_eq_false (by omega)
                  obtain ⟨i3, rfl⟩ : ∃ i3, i3 = i := ⟨_, rfl⟩
                  have eim : i3 = m := by omega
                  rw [eim] at HL HDL
                  have HPO : Hid (PartOk ru mv K m (oAt O) (fun i => numK (rlO ru O m) (ru (oAt O i))) dn) := Lib.hid (by rw [HDL.out]; exact PartOk.start)
                  have hdm : dn ≤ m := by omega
                  have HBW : Hid (Below gp wo wr) := Lib.hid (HB3.out.trans (HKP.out.bel (by omega) (fun q h1 h2 => by omega)))
                  have HL3 : Hid (L.length = m ∧ ∀ j, j < m → nth L j = (((fun i => numK (rlO ru O m) (ru (oAt O i))) j : Nat) : Int)) := Lib.hid HL.out
                  have HGW := Lib.hid hgw
                  clear HMP HKP HL eim hcx HDL hz3 hdl
                  go_wp2_with fail
                  go_loopw [10, 11] (fun pv cv wr => ∃ (gq : Nat) (L : List Int) (part : Nat → Nat) (count : Nat), pv = .slice (some ⟨gq, 0, none⟩) m m ∧ cv = .int .i64 (count : Int) ∧ count ≤ m ∧ gp ≤ gq ∧ Hid (Below gp wo wr) ∧ Hid (Blk wr gq 3 (iv L)) ∧ Hid (L.length = m ∧ ∀ j, j < m → nth L j = ((part j : Nat) : Int)) ∧ Hid (PartOk ru mv K m (oAt O) part count)) (fun _ cv _ => m - (intOf cv).toNat)
                  case atStart => exact ⟨gp, L, _, dn, rfl, rfl, hdm, Nat.le_refl _, HBW, HBL, HL3, HPO⟩
                  case round =>
                    as_aux_lemma =>
                      clear HPO HBW HL3 HBL hgw HGW
                      obtain ⟨gq, L, part, count, rfl, rfl, hcm, hgq, HBW, HBL, HL, HPO⟩ := hrel
                      obtain ⟨wi, rfl⟩ : ∃ wi : World, wi = wr := ⟨_, rfl⟩
                      obtain ⟨gn, hgn⟩ : ∃ gn, gn = wi.heap.size := ⟨_, rfl⟩
                      have hgqn : gq < gn := by rw [hgn]; exact HBL.out.lt
                      have hmi := fun w => mk_ints (n := m) (by omega) w
                      have hmk := @run_makeMap Tryz.prog
                      obtain ⟨w4, hw4⟩ : ∃ w4, w4 = (wi.alloc (.cells (zs (.int .i64 0) m) 3)).alloc (.map #[] 0) := ⟨_, rfl⟩
                      have hs4 : w4.heap.size = gn + 1 + 1 := by rw [hw4, hgn]; simp
                      have hb4 : Below gn wi w4 := by rw [hw4, hgn]; exact ((Below.refl _ _).alloc (Nat.le_refl _) _).alloc (by simp) _
                      have hbl4 : Blk w4 gn 3 (iv (List.replicate m 0)) := by rw [hw4, hgn, ← iv_rep]; exact (Blk.made wi 3 (.int .i64 0) m).alloc _
                      have him4 : SMap w4 (gn + 1) 0 (distinct (ktO mv K O part 0)).length (numO (ktO mv K O part 0)) := by
                        have := SMap.made (wi.alloc (.cells (zs (.int .i64 0) m) 3))
                        rw [show (wi.alloc (.cells (zs (.int .i64 0) m) 3)).heap.size = gn + 1 by rw [hgn]; simp] at this
                        rw [hw4]; exact this
                      have HB4 := Lib.hid hb4; have HBL4 := Lib.hid hbl4; have HIM4 := Lib.hid him4; have HS4 := Lib.hid hs4
                      clear hb4 hbl4 him4 hs4
                      go_wp2_with fail
                      rw [← hgn, ← hw4]
                      have HGN := Lib.hid hgn
                      clear hw4 hmi hmk hgn
                      go_loopw [116] (fun i wr => ∃ (i' : Nat) (L2 : List Int), i' ≤ m ∧ i = .int .i64 (i' : Int) ∧ Hid (Kp (fun q => q = gn ∨ q = gn + 1) w4 wr) ∧ Hid (Blk wr gn 3 (iv L2)) ∧ Hid (∃ n, n ≤ i' ∧ SMap wr (gn + 1) n (distinct (ktO mv K O part i')).length (numO (ktO mv K O part i'))) ∧ Hid (L2.length = m ∧ ∀ j, j < i' → nth L2 j = ((numK (ktO mv K O part m) (keyT (keyF mv K (oAt O) (fun t => O.idxOf t) part j)) : Nat) : Int))) (fun i _ => m - (intOf i).toNat)
                      case atStart => exact ⟨0, _, Nat.zero_le _, rfl, Kp.refl _ _, HBL4, Lib.hid ⟨0, Nat.le_refl _, HIM4.out⟩, Lib.hid ⟨List.length_replicate, fun j h => absurd h (by omega)⟩⟩
                      case round =>
                        as_aux_lemma =>
                          clear HBL4 HIM4
                          obtain ⟨i, L2, hi, rfl, HKP, HB2, HMP, HL2⟩ := hrel
                          have hgw : gn + 1 + 1 ≤ wr.heap.size := by have := HKP.out.size; have := HS4.out; omega
                          have hgwi := HGN.out
                          have hs4 := HS4.out
                          have HCX : Hid (∀ q : Addr, q.block < gn → wr.cell? q = wi.cell? q) := Lib.hid (fun q h1 => (HKP.out.cell (p := q) (by omega) (by omega)).trans (HB4.out.cell h1))
                          have HCO : Hid (∀ q : Addr, q.block < gp → wr.cell? q = wo.cell? q) := Lib.hid (fun q h1 => (HCX.out q (by omega)).trans (HBW.out.cell h1))
                          have HBR : Hid (Below gp wo wr) := Lib.hid ((HBW.out.trans (HB4.out.mono (by omega))).trans (HKP.out.bel (by omega) (fun q h1 h2 => by omega)))
                          have HP100 : Hid (∀ j, j < m → part j < 100) := Lib.hid (fun j hj => by have := HPO.out.lt j hj; omega)
                          have HBLr : Hid (Blk wr gq 3 (iv L)) := Lib.hid ((HKP.out.block gq (by omega) (by omega)).trans ((HBL.out.below HB4.out hgqn)))
                          clear hgwi hs4
                          by_cases him : i < m
                          · as_aux_lemma =>
                              have d3 : decide ((i : Int) < (m : Int)) = true := decide_eq_true (by omega)
                              obtain ⟨c1, hsN⟩ := HOD.out i him
                              have y0 := (HCO.out ⟨ob, i, none⟩ hobg).trans c1
                              have y1 := HBLr.out.icell (k := i) (by rw [HL.out.1]; exact him)
                              rw [HL.out.2 i him] at y1
                              have HIT := Lib.hid (y_strconv_Itoa_small (part i) (HP100.out i him) wr)
                              have y2 := (HCO.out ⟨g, 2, none⟩ (show g < gp by omega)).trans (HKDO.out.cell (i := 2) rfl)
                              obtain ⟨mb, mo, rfl, hmb, hmc⟩ := HRM.out wo HWO.out (by rw [HDN.out.lm]; exact hN)
                              have hsx : oAt O i < N := hsN
                              obtain ⟨Ar', cr', z1, z2, z3, z4⟩ := hmc (oAt O i) (by rw [HDN.out.lm]; exact hsN)
                              rw [HDN.out.row _ hsN] at z1 z2
                              have y3 := (HCO.out ⟨mb, mo + oAt O i, none⟩ (show mb < gp by omega)).trans z1
                              obtain ⟨s, hs⟩ : ∃ s, s = oAt O i := ⟨_, rfl⟩
                              rw [← hs] at y0 y3 hsx z4
                              have HR4 := Lib.hid z4; have HSS := Lib.hid hs
                              unfold maxLen at z3
                              clear c1 hsN hmc z1 z4 hs
                              go_wp2_with fail
                              refine HIT.out.mono ?_
                              rintro e w' ⟨rfl, hw⟩
                              obtain rfl := hw.symm
                              clear HIT hw
                              go_wp2_with fail
                              go_loopw [21, 132] (fun key c w6 => ∃ (c' : Nat), c' ≤ K ∧ c = .int .i64 (c' : Int) ∧ key = .string ⟨(keyT (part i, (List.range c').map fun d => part (O.idxOf (mv s d)))).toArray⟩ ∧ Hid (w6 = wr)) (fun _ c _ => K - (intOf c).toNat)
                              case atStart => exact ⟨0, Nat.zero_le _, rfl, by unfold keyT; simp, rfl⟩
                              case round =>
                                as_aux_lemma =>
                                  clear y0 y1 y2 y3
                                  obtain ⟨c, hc, rfl, rfl, hw⟩ := hrel
                                  obtain rfl := hw.out
                                  clear hw
                                  by_cases hcK : c < K
                                  · as_aux_lemma =>
                                      have d4 : decide ((c : Int) < (K : Int)) = true := decide_eq_true (by omega)
                                      obtain ⟨rb, ro, rfl, hrb, hrc⟩ := (RdI.below HR4.out (HBR.out.mono (show B ≤ gp by omega))).at_ (by rw [HDN.out.row s hsx]; omega)
                                      have y4 := hrc c (by rw [HDN.out.row s hsx]; exact hcK)
                                      rw [(HDN.out.mv s c hsx hcK).1] at y4
                                      have hidx := (HAT.out i c him hcK).1
                                      rw [← HSS.out] at hidx
                                      have hte := (HDN.out.mv s c hsx hcK).2
                                      obtain ⟨tt, htt⟩ : ∃ tt, tt = mv s c := ⟨_, rfl⟩
                                      rw [← htt] at y4 hidx hte
                                      have lk := (HIM.out.ext (by rw [← HGP.out]; exact HBR.out)).look1 (wfI_nat (a := tt) (by omega))
                                      rw [idxI_nat, if_pos (List.idxOf_lt_length_iff.1 (by rw [← HM.out]; exact hidx))] at lk
                                      simp only [Option.getD_some] at lk
                                      obtain ⟨ix, hix⟩ : ∃ ix, ix = O.idxOf tt := ⟨_, rfl⟩
                                      rw [← hix] at lk hidx
                                      have y5 := HBLr.out.icell (k := ix) (by rw [HL.out.1]; exact hidx)
                                      rw [HL.out.2 ix hidx] at y5
                                      have HIT := Lib.hid (y_strconv_Itoa_small (part ix) (HP100.out ix hidx) wr)
                                      have hkey : keyT (part i, (List.range (c + 1)).map fun d => part (O.idxOf (mv s d))) = keyT (part i, (List.range c).map fun d => part (O.idxOf (mv s d))) ++ 44 :: Lib.decDigits (part ix) := by rw [range_snoc (fun d => part (O.idxOf (mv s d))), keyT_snoc, ← htt, ← hix]
                                      have HKEY := Lib.hid hkey
                                      have hkl : (keyT (part i, (List.range c).map fun d => part (O.idxOf (mv s d)))).length ≤ 2 + 3 * c := by
                                        have := keyT_len (k := part i) (HP100.out i him) (l := (List.range c).map fun d => part (O.idxOf (mv s d))) (fun x hx => by
                                          obtain ⟨d, hd, rfl⟩ := List.mem_map.1 hx
                                          have hd2 := List.mem_range.1 hd
                                          have := (HAT.out i d him (by omega)).1
                                          rw [← HSS.out] at this
                                          exact HP100.out _ this)
                                        rwa [List.length_map, List.length_range] at this
                                      have hdl := dec_len2 (HP100.out ix hidx)
                                      obtain ⟨kt, hkt⟩ : ∃ kt, kt = keyT (part i, (List.range c).map fun d => part (O.idxOf (mv s d))) := ⟨_, rfl⟩
                                      rw [← hkt] at hkl HKEY ⊢
                                      clear hrc htt hix hkey hkt
                                      go_wp2_with fail
                                      refine HIT.out.mono ?_
                                      rintro e w' ⟨rfl, hw⟩
                                      obtain rfl := hw.symm
                                      clear HIT hw
                                      go_wp2_with fail
                                      refine ⟨⟨c + 1, by omega, by go_num, ?_, Lib.hid trivial⟩, by simp [intOf]; omega⟩
                                      rw [HKEY.out, bytes_cat]
                                  · as_aux_lemma =>
                                      have d4 : decide ((c : Int) < (K : Int)) = false := decide_eq_false (by omega)
                                      obtain rfl : K = c := by omega
                                      obtain ⟨kt, hkt⟩ : ∃ kt, kt = keyT (part i, (List.range K).map fun d => part (O.idxOf (mv s d))) := ⟨_, rfl⟩
                                      have hkl : kt.length ≤ 2 + 3 * K := by
                                        have := keyT_len (k := part i) (HP100.out i him) (l := (List.range K).map fun d => part (O.idxOf (mv s d))) (fun x hx => by
                                          obtain ⟨d, hd, rfl⟩ := List.mem_map.1 hx
                                          have hd2 := List.mem_range.1 hd
                                          have := (HAT.out i d him (by omega)).1
                                          rw [← HSS.out] at this
                                          exact HP100.out _ this)
                                        rw [List.length_map, List.length_range] at this
                                        rw [hkt]; exact this
                                      have HKT : Hid (kt = keyT (keyF mv K (oAt O) (fun t => O.idxOf t) part i)) := Lib.hid (by rw [hkt]; unfold keyF; rw [HSS.out])
                                      rw [← hkt]
                                      have hdkl : (distinct (ktO mv K O part i)).length ≤ i := by have := distinct_le (ktO mv K O part i); unfold ktO at this ⊢; simpa using this
                                      obtain ⟨dn2, hdn2⟩ : ∃ dn2, dn2 = (distinct (ktO mv K O part i)).length := ⟨_, rfl⟩
                                      rw [← hdn2] at hdkl HMP
                                      obtain ⟨n2, hn2, hsm⟩ := HMP.out
                                      have lk := hsm.look2 (x := ⟨kt.toArray⟩) (by show kt.toArray.size ≤ maxLen; rw [List.size_toArray]; unfold maxLen; omega)
                                      rw [show (⟨kt.toArray⟩ : ByteArray).data.toList = kt from List.toList_toArray] at lk
                                      have hsn := @ktO_snoc mv K i O part
                                      have hfin : numK (ktO mv K O part m) kt = numK (ktO mv K O part (i + 1)) kt := by rw [HKT.out]; exact numK_range (fun j => keyT (keyF mv K (oAt O) (fun t => O.idxOf t) part j)) him
                                      rw [← HKT.out] at hsn
                                      have y7 := HB2.out.icell (k := i) (by rw [HL2.out.1]; exact him)
                                      have y8 := HB2.out.frozen i
                                      generalize nth L2 i = o1 at *
                                      have HSN := Lib.hid hsn; have HFIN := Lib.hid hfin; have HSM := Lib.hid hsm; have HDN2 := Lib.hid hdn2
                                      clear hkt hsn hfin hsm hdn2 HMP
                                      by_cases hin : kt ∈ ktO mv K O part i
                                      · as_aux_lemma =>
                                          have e1 : numO (ktO mv K O part i) kt = some (numK (ktO mv K O part i) kt) := by unfold numO; rw [if_pos hin]
                                          rw [e1] at lk
                                          simp only [Option.getD_some, Option.isSome_some] at lk
                                          have e2 : numK (ktO mv K O part m) kt = numK (ktO mv K O part i) kt := by rw [HFIN.out, HSN.out, numK_append hin]
                                          obtain ⟨kk, hkk⟩ : ∃ kk, kk = numK (ktO mv K O part i) kt := ⟨_, rfl⟩
                                          rw [← hkk] at lk e2
                                          have HL4 : Hid ((L2.set i (kk : Int)).length = m ∧ ∀ j, j < i + 1 → nth (L2.set i (kk : Int)) j = ((numK (ktO mv K O part m) (keyT (keyF mv K (oAt O) (fun t => O.idxOf t) part j)) : Nat) : Int)) := Lib.hid ⟨by rw [List.length_set]; exact HL2.out.1, fun j hj => by
                                            rw [nth_set (by rw [HL2.out.1]; exact him)]
                                            by_cases e : i = j
                                            · subst e; rw [if_pos rfl, ← HKT.out, e2]
                                            · rw [if_neg e]; exact HL2.out.2 j (by omega)⟩
                                          have HIM4 : Hid (∃ n, n ≤ i + 1 ∧ SMap (wr.setCell ⟨gn, i, none⟩ (.int .i64 (kk : Int))) (gn + 1) n (distinct (ktO mv K O part (i + 1))).length (numO (ktO mv K O part (i + 1)))) := Lib.hid ⟨n2, by omega, by
                                            rw [HSN.out, distinct_old hin, ← HDN2.out, show numO (ktO mv K O part i ++ [kt]) = numO (ktO mv K O part i) from funext fun x => numO_old hin x]
                                            exact HSM.out.set_ (a := ⟨gn, i, none⟩) (by show gn + 1 ≠ gn; omega) _⟩
                                          clear e1 e2 hkk hin
                                          go_wp2_with fail
                                          go_roundw
                                          case rel => exact ⟨i + 1, _, by omega, by go_num, Lib.hid (HKP.out.set_ (p := ⟨gn, i, none⟩) (.inr (.inl rfl)) _), Lib.hid (HB2.out.iset i (kk : Int)), HIM4, HL4⟩
                                          case measure => simp [intOf]; omega
                                      · as_aux_lemma =>
                                          have e1 : numO (ktO mv K O part i) kt = none := by unfold numO; rw [if_neg hin]
                                          rw [e1] at lk
                                          simp only [Option.getD_none, Option.isSome_none] at lk
                                          have e2 : numK (ktO mv K O part m) kt = dn2 := by rw [HFIN.out, HSN.out, numK_new hin, ← HDN2.out]
                                          have hlen := HSM.out.len 3
                                          obtain ⟨w5, hput, hm5, hg5⟩ := HSM.out.put (x := ⟨kt.toArray⟩) (by show kt.toArray.size ≤ maxLen; rw [List.size_toArray]; unfold maxLen; omega) (by rw [show (⟨kt.toArray⟩ : ByteArray).data.toList = kt from List.toList_toArray]; exact e1) (v := dn2) (by omega) (by omega)
                                          rw [show (⟨kt.toArray⟩ : ByteArray).data.toList = kt from List.toList_toArray] at hm5
                                          have hbl5 := HB2.out.grown hg5 (by simp)
                                          have y7 := (World.cell?_of_block (w := wr) (a := ⟨gn, i, none⟩) (hg5.block gn (by omega) (by simp))).trans y7
                                          have y8 := hbl5.frozen i
                                          have HL4 : Hid ((L2.set i (dn2 : Int)).length = m ∧ ∀ j, j < i + 1 → nth (L2.set i (dn2 : Int)) j = ((numK (ktO mv K O part m) (keyT (keyF mv K (oAt O) (fun t => O.idxOf t) part j)) : Nat) : Int)) := Lib.hid ⟨by rw [List.length_set]; exact HL2.out.1, fun j hj => by
                                            rw [nth_set (by rw [HL2.out.1]; exact him)]
                                            by_cases e : i = j
                                            · subst e; rw [if_pos rfl, ← HKT.out, e2]
                                            · rw [if_neg e]; exact HL2.out.2 j (by omega)⟩
                                          have HIM4 : Hid (∃ n, n ≤ i + 1 ∧ SMap (w5.setCell ⟨gn, i, none⟩ (.int .i64 (dn2 : Int))) (gn + 1) n (distinct (ktO mv K O part (i + 1))).length (numO (ktO mv K O part (i + 1)))) := Lib.hid ⟨n2 + 1, by omega, by
                                            rw [HSN.out, distinct_new hin, List.length_append, ← HDN2.out, show numO (ktO mv K O part i ++ [kt]) = (fun y => if y = kt then some dn2 else numO (ktO mv K O part i) y) from funext fun x => by rw [numO_new hin x, ← HDN2.out]]
                                            exact hm5.set_ (a := ⟨gn, i, none⟩) (by show gn + 1 ≠ gn; omega) _⟩
                                          have HKP5 := Lib.hid ((HKP.out.grown hg5 (fun q e => by cases e; exact .inr (.inr rfl))).set_ (p := ⟨gn, i, none⟩) (.inr (.inl rfl)) (.int .i64 (dn2 : Int)))
                                          have HBL5 := Lib.hid (hbl5.iset i (dn2 : Int))
                                          clear e1 e2 hin hm5 hg5 hbl5
                                          go_wp2_with fail
                                          go_roundw
                                          case rel => exact ⟨i + 1, _, by omega, by go_num, HKP5, HBL5, HIM4, HL4⟩
                                          case measure => simp [intOf]; omega
                          · as_aux_lemma =>
                              have d3 : decide ((i : Int) < (m : Int)) = false := decide_eq_false (by omega)
                              have eim : i = m := by omega
                              have hmp := HMP.out
                              have hl2 := HL2.out
                              rw [eim] at hmp hl2
                              have HPN : Hid (PartOk ru mv K m (oAt O) (nextF mv K m (oAt O) (fun t => O.idxOf t) part) (distinct (ktO mv K O part m)).length) := Lib.hid (by rw [ktO_len]; exact HPO.out.next HAT.out)
                              have HSTB : Hid ((distinct (ktO mv K O part m)).length = count → ∀ i j, i < m → j < m → (nextF mv K m (oAt O) (fun t => O.idxOf t) part i = nextF mv K m (oAt O) (fun t => O.idxOf t) part j ↔ Eqv ru mv (· < K) (oAt O i) (oAt O j))) := Lib.hid (fun e => by rw [ktO_len] at e; exact HPO.out.stable HAT.out e)
                              obtain ⟨hmore1, hmore2⟩ := HPO.out.more (at_ := fun t => O.idxOf t)
                              rw [← ktO_len] at hmore1 hmore2
                              obtain ⟨n2, hn2, hsm⟩ := hmp
                              have HL4 : Hid (L2.length = m ∧ ∀ j, j < m → nth L2 j = ((nextF mv K m (oAt O) (fun t => O.idxOf t) part j : Nat) : Int)) := Lib.hid ⟨hl2.1, fun j hj => by rw [hl2.2 j hj, ktO_num]⟩
                              obtain ⟨dn2, hdn2⟩ : ∃ dn2, dn2 = (distinct (ktO mv K O part m)).length := ⟨_, rfl⟩
                              rw [← hdn2] at hsm hmore1 hmore2 HPN HSTB
                              have hlen := hsm.len 3
                              obtain ⟨pn, hpn⟩ : ∃ pn, pn = nextF mv K m (oAt O) (fun t => O.idxOf t) part := ⟨_, rfl⟩
                              have HPZ : Hid (pn 0 = 0) := Lib.hid (by rw [hpn]; exact nextF_zero hpos)
                              rw [← hpn] at HPN HSTB HL4
                              clear hl2 eim hsm hdn2 hpn HMP HL2
                              by_cases hcd : dn2 = count
                              · as_aux_lemma =>
                                  subst hcd
                                  have HMI : Hid (Mini ru mv N K O pn dn2) := Lib.hid ⟨⟨by rw [← HM.out]; exact HAT.out, by rw [← HM.out]; exact HSTB.out rfl⟩, by rw [← HM.out]; exact hpos, HZE.out, HLE.out, by rw [← HM.out]; exact HPN.out.lt, by rw [← HM.out]; exact HPN.out.on, by rw [← HM.out]; exact hmN, HPZ.out⟩
                                  clear HSTB HPN HPO HL HBLr HCX HBW HBL
                                  go_wp2_with fail
                                  have hmr := fun w => mk_ints (n := dn2) (by omega) w
                                  have hmm := fun w => mk_rows (n := dn2) (by omega) w
                                  obtain ⟨wd, hwd⟩ : ∃ wd, wd = wr.drew := ⟨_, rfl⟩
                                  have hbd : Below wr.heap.size wr wd := by rw [hwd]; exact (Below.refl _ _).drew
                                  have HBD := Lib.hid hbd
                                  have hgwr : g < wr.heap.size := by omega
                                  have hzd := hbd.size
                                  have k0 : ∀ Z : WB wr.heap.size wd, Z.val.cell? ⟨g, 0, none⟩ = some (.int .i64 (K : Int)) := fun Z => (Z.bel.cell (p := ⟨g, 0, none⟩) hgwr).trans ((hbd.cell (p := ⟨g, 0, none⟩) hgwr).trans ((HCO.out ⟨g, 0, none⟩ (by show g < gp; omega)).trans (HKDO.out.cell (i := 0) rfl)))
                                  clear hbd
                                  refine wp_post (fun a a' w' => ∃ gr gm go : Nat, a' = ⟨#[Value.agg #[Value.int .i64 (K : Int), Value.slice Ar N cr, Value.slice Am N cm], Value.pointer (some ⟨g, 0, none⟩), Value.pointer (some ⟨g + 1, 0, none⟩), Value.slice (some ⟨ob, 0, none⟩) m co, Value.map (some (g + 1 + 1 + 1)), Value.int .i64 (k : Int), undef, u7, u8, u9, Value.slice (some ⟨gn, 0, none⟩) m m, Value.int .i64 (dn2 : Int), Value.map (some (gp + 1)), u13, u14, u15, u16, Value.slice (some ⟨gn, 0, none⟩) m m, Value.map (some (gn + 1)), u19, u20, u21, undef, u23, u24, u25, Value.pointer (some ⟨go, 0, none⟩), undef, undef, undef, undef, undef, undef, Value.slice (some ⟨g + 1 + 1, 0, none⟩) 1 1, Value.map (some (g + 1 + 1 + 1)), Value.map (some (g + 1 + 1 + 1)), Value.int .i64 (k : Int), Value.slice (some ⟨ob, 0, none⟩) m co, Value.int .i64 (m : Int), Value.bool false, u40, u41, u42, u43, u44, u45, u46, u47, u48, u49, u50, u51, u52, u53, u54, u55, u56, u57, u58, u59, u60, u61, u62, u63, u64, u65, u66, u67, u68, u69, u70, u71, Value.slice (some ⟨ob, 0, none⟩) m co, Value.int .i64 (m : Int), Value.slice (some ⟨gp, 0, none⟩) m m, Value.map (some (gp + 1)), Value.slice (some ⟨ob, 0, none⟩) m co, Value.int .i64 (m : Int), Value.int .i64 (i3 : Int), Value.bool false, u80, u81, u82, u83, u84, u85, u86, u87, u88, u89, u90, u91, u92, u93, u94, u95, u96, u97, u98, u99, u100, u101, u102, u103, u104, u105, u106, u107, u108, u109, Value.slice (some ⟨ob, 0, none⟩) m co, Value.int .i64 (m : Int), Value.slice (some ⟨gn, 0, none⟩) m m, Value.map (some (gn + 1)), Value.slice (some ⟨ob, 0, none⟩) m co, Value.int .i64 (m : Int), Value.int .i64 (i : Int), Value.bool false, u118, u119, u120, u121, u122, u123, u124, u125, u126, u127, u128, u129, u130, u131, u132, u133, u134, u135, u136, u137, u138, u139, u140, u141, u142, u143, u144, u145, u146, u147, u148, u149, u150, u151, u152, u153, u154, u155, u156, u157, u158, u159, u160, u161, u162, u163, u164, Value.slice (some ⟨gn, 0, none⟩) m m, Value.map (some (gn + 1)), Value.int .i64 (dn2 : Int), Value.int .i64 (dn2 : Int), Value.bool true, u170, u171, Value.pointer (some ⟨g, 0, none⟩), Value.int .i64 (K : Int), Value.int .i64 (dn2 : Int), Value.slice (some ⟨gr, 0, none⟩) dn2 dn2, Value.int .i64 (dn2 : Int), Value.slice (some ⟨gm, 0, none⟩) dn2 dn2, Value.agg #[.int .i64 (K : Int), .slice (some ⟨gr, 0, none⟩) dn2 dn2, .slice (some ⟨gm, 0, none⟩) dn2 dn2], undef, undef, undef, undef, undef, undef, undef, undef, undef, undef, undef, undef, undef, undef, undef, undef, undef, undef, undef, undef, undef, undef, undef, undef, undef, undef, undef, undef, undef, undef, undef, undef, undef, undef, undef, undef, undef, undef, undef, undef, undef, undef, undef, undef, undef, undef, undef, undef, undef, undef, undef, undef, undef, undef, undef, undef, undef], []⟩ ∧ Hid (Below wr.heap.size wr w' ∧ Blk w' gr 3 (iv (List.replicate dn2 0)) ∧ Blk w' gm 34 (List.replicate dn2 (.slice none 0 0)) ∧ Blk w' go 43 [.int .i64 (K : Int), .slice (some ⟨gr, 0, none⟩) dn2 dn2, .slice (some ⟨gm, 0, none⟩) dn2 dn2] ∧ wr.heap.size ≤ gr ∧ wr.heap.size ≤ gm ∧ wr.heap.size ≤ go)) ?_ ?_
                                  · as_aux_lemma =>
                                      refine wp_region_S (fun w' => ∃ X : WB wr.heap.size wd, w' = X.val) (by kernel_rfl) ?_
                                      rw [← hwd]
                                      clear hwd
                                      show wpAnyS _ _ _ _ _ (6 + 3) _ _ _
                                      refine takeS 6 0 3 (by kernel_rfl) (by kernel_rfl) (fun _ _ _ _ _ h => nomatch h.1) ⟨⟨_, Below.refl _ _⟩, rfl⟩ ?_
                                      simp only [List.take_succ_cons, List.take_zero, List.drop_succ_cons, List.drop_zero]
                                      repeat (first | go_big_quiet_skip | (go_big_quiet_want; go_big_quiet_op; go_big_quiet_on))
                                      refine wpQuiet_nil ?_
                                      show wpAnyS _ _ _ _ _ (5 + 1) _ _ _
                                      refine takeS 5 4 1 (by kernel_rfl) (by kernel_rfl) (fun _ _ _ _ _ h => nomatch h.1) ⟨⟨_, Below.refl _ _⟩, rfl⟩ ?_
                                      simp only [List.take_succ_cons, List.take_zero, List.drop_succ_cons, List.drop_zero]
                                      repeat (first | go_big_quiet_skip | (go_big_quiet_want; go_big_quiet_op; go_big_quiet_on))
                                      refine wpQuiet_nil ?_
                                      clear k0
                                      refine threeS 4 3 5 7 (by kernel_rfl) (by decide) (by decide) (by decide) ?_ ?_ ?_
                                      · as_aux_lemma =>
                                          simp only [List.take_succ_cons, List.take_zero, List.drop_succ_cons, List.drop_zero]
                                          go_wp2_with fail
                                          obtain ⟨wy1, hwy1⟩ : ∃ wy1, wy1 = wd.alloc (.cells (zs (.int .i64 0) dn2) 3) := ⟨_, rfl⟩
                                          have hbwy1 : Below wd.heap.size wd wy1 := by rw [hwy1]; exact (Below.refl _ _).alloc (Nat.le_refl _) _
                                          have HKrwy1 : Hid (Blk wy1 wd.heap.size 3 (iv (List.replicate dn2 0))) := Lib.hid (by rw [hwy1, ← iv_rep]; exact Blk.made wd 3 (.int .i64 0) dn2)
                                          have HBwy1 : Hid (Below wr.heap.size wd wy1) := Lib.hid ((Below.refl wr.heap.size wd).trans (hbwy1.mono (by have := (Below.refl wr.heap.size wd).size; omega)))
                                          rw [← hwy1]
                                          clear hwy1 hbwy1
                                          refine ⟨⟨WB.mk _ HBwy1.out, rfl⟩, ?_⟩
                                          refine twoS 3 5 7 (by kernel_rfl) (by decide) (by decide) ?_ ?_
                                          · as_aux_lemma =>
                                              simp only [List.take_succ_cons, List.take_zero, List.drop_succ_cons, List.drop_zero]
                                              go_wp2_with fail
                                              obtain ⟨wy2, hwy2⟩ : ∃ wy2, wy2 = wy1.alloc (.cells (zs (.slice none 0 0) dn2) 34) := ⟨_, rfl⟩
                                              have hbwy2 : Below wy1.heap.size wy1 wy2 := by rw [hwy2]; exact (Below.refl _ _).alloc (Nat.le_refl _) _
                                              have HKmwy2 : Hid (Blk wy2 wy1.heap.size 34 (List.replicate dn2 (.slice none 0 0))) := Lib.hid (by rw [hwy2]; exact Blk.made wy1 34 (.slice none 0 0) dn2)
                                              have HKrwy2 := Lib.hid (HKrwy1.out.below' hbwy2)
                                              have HBwy2 : Hid (Below wr.heap.size wd wy2) := Lib.hid ((HBwy1.out).trans (hbwy2.mono (by have := (HBwy1.out).size; omega)))
                                              rw [← hwy2]
                                              clear hwy2 hbwy2
                                              refine ⟨⟨WB.mk _ HBwy2.out, rfl⟩, ?_⟩
                                              show wpAnyS _ _ _ _ _ (2 + 1) _ _ _
                                              refine takeS 2 6 1 (by kernel_rfl) (by kernel_rfl) (fun _ _ _ _ _ h => nomatch h.1) ⟨⟨_, HBwy2.out⟩, rfl⟩ ?_
                                              simp only [List.take_succ_cons, List.take_zero, List.drop_succ_cons, List.drop_zero]
                                              repeat (first | go_big_quiet_skip | (go_big_quiet_want; go_big_quiet_op; go_big_quiet_on))
                                              refine wpQuiet_nil ?_
                                              refine oneS 1 7 (by kernel_rfl) (by decide) ?_
                                              simp only [List.take_succ_cons, List.take_zero, List.drop_succ_cons, List.drop_zero]
                                              go_wp2_with fail
                                              obtain ⟨wy3, hwy3⟩ : ∃ wy3, wy3 = wy2.alloc (.cells #[.int .i64 0, .slice none 0 0, .slice none 0 0] 43) := ⟨_, rfl⟩
                                              have hbwy3 : Below wy2.heap.size wy2 wy3 := by rw [hwy3]; exact (Below.refl _ _).alloc (Nat.le_refl _) _
                                              have HKowy3 : Hid (Blk wy3 wy2.heap.size 43 [.int .i64 0, .slice none 0 0, .slice none 0 0]) := Lib.hid (by rw [hwy3]; exact Blk.new wy2 43 [.int .i64 0, .slice none 0 0, .slice none 0 0])
                                              have HKrwy3 := Lib.hid (HKrwy2.out.below' hbwy3)
                                              have HKmwy3 := Lib.hid (HKmwy2.out.below' hbwy3)
                                              have HBwy3 : Hid (Below wr.heap.size wd wy3) := Lib.hid ((HBwy2.out).trans (hbwy3.mono (by have := (HBwy2.out).size; omega)))
                                              rw [← hwy3]
                                              clear hwy3 hbwy3
                                              refine ⟨⟨WB.mk _ HBwy3.out, rfl⟩, ?_⟩
                                              refine oneS 0 8 (by kernel_rfl) (by decide) ?_
                                              simp only [List.take_succ_cons, List.take_zero, List.drop_succ_cons, List.drop_zero]
                                              have e0 := HKowy3.out.cell (i := 0) rfl
                                              have e1 := HKowy3.out.cell (i := 1) rfl
                                              have e2 := HKowy3.out.cell (i := 2) rfl
                                              have f0 := HKowy3.out.frozen 0
                                              have f1 := HKowy3.out.frozen 1
                                              have f2 := HKowy3.out.frozen 2
                                              have hgr := HKrwy3.out
                                              have hgm := HKmwy3.out
                                              have hgo := HKowy3.out
                                              have hne1 : wd.heap.size ≠ wy2.heap.size := fun e => by rw [e] at hgr; unfold Blk at hgr hgo; rw [hgo] at hgr; simp at hgr
                                              have hne2 : wy1.heap.size ≠ wy2.heap.size := fun e => by rw [e] at hgm; unfold Blk at hgm hgo; rw [hgo] at hgm; simp at hgm
                                              have HPO : Hid (Below wr.heap.size wr ((((wy3.setCell ⟨wy2.heap.size, 0, none⟩ (.int .i64 (K : Int))).setCell ⟨wy2.heap.size, 1, none⟩ (.slice (some ⟨wd.heap.size, 0, none⟩) dn2 dn2)).setCell ⟨wy2.heap.size, 2, none⟩ (.slice (some ⟨wy1.heap.size, 0, none⟩) dn2 dn2))) ∧ Blk ((((wy3.setCell ⟨wy2.heap.size, 0, none⟩ (.int .i64 (K : Int))).setCell ⟨wy2.heap.size, 1, none⟩ (.slice (some ⟨wd.heap.size, 0, none⟩) dn2 dn2)).setCell ⟨wy2.heap.size, 2, none⟩ (.slice (some ⟨wy1.heap.size, 0, none⟩) dn2 dn2))) wd.heap.size 3 (iv (List.replicate dn2 0)) ∧ Blk ((((wy3.setCell ⟨wy2.heap.size, 0, none⟩ (.int .i64 (K : Int))).setCell ⟨wy2.heap.size, 1, none⟩ (.slice (some ⟨wd.heap.size, 0, none⟩) dn2 dn2)).setCell ⟨wy2.heap.size, 2, none⟩ (.slice (some ⟨wy1.heap.size, 0, none⟩) dn2 dn2))) wy1.heap.size 34 (List.replicate dn2 (.slice none 0 0)) ∧ Blk ((((wy3.setCell ⟨wy2.heap.size, 0, none⟩ (.int .i64 (K : Int))).setCell ⟨wy2.heap.size, 1, none⟩ (.slice (some ⟨wd.heap.size, 0, none⟩) dn2 dn2)).setCell ⟨wy2.heap.size, 2, none⟩ (.slice (some ⟨wy1.heap.size, 0, none⟩) dn2 dn2))) wy2.heap.size 43 [.int .i64 (K : Int), .slice (some ⟨wd.heap.size, 0, none⟩) dn2 dn2, .slice (some ⟨wy1.heap.size, 0, none⟩) dn2 dn2] ∧ wr.heap.size ≤ wd.heap.size ∧ wr.heap.size ≤ wy1.heap.size ∧ wr.heap.size ≤ wy2.heap.size) := Lib.hid ⟨(HBD.out.trans ((((HBwy3.out.setCell (p := ⟨wy2.heap.size, 0, none⟩) (by have := HBwy2.out.size; have := HBD.out.size; show wr.heap.size ≤ wy2.heap.size; omega) _).setCell (p := ⟨wy2.heap.size, 1, none⟩) (by have := HBwy2.out.size; have := HBD.out.size; show wr.heap.size ≤ wy2.heap.size; omega) _).setCell (p := ⟨wy2.heap.size, 2, none⟩) (by have := HBwy2.out.size; have := HBD.out.size; show wr.heap.size ≤ wy2.heap.size; omega) _))), ((hgr.far (p := ⟨wy2.heap.size, 0, none⟩) hne1 _).far (p := ⟨wy2.heap.size, 1, none⟩) hne1 _).far (p := ⟨wy2.heap.size, 2, none⟩) hne1 _, ((hgm.far (p := ⟨wy2.heap.size, 0, none⟩) hne2 _).far (p := ⟨wy2.heap.size, 1, none⟩) hne2 _).far (p := ⟨wy2.heap.size, 2, none⟩) hne2 _, ((hgo.set_ 0 _).set_ 1 _).set_ 2 _, (by show wr.heap.size ≤ wd.heap.size; have := HBD.out.size; omega), (by have := HBwy1.out.size; have := HBD.out.size; show wr.heap.size ≤ wy1.heap.size; omega), (by have := HBwy2.out.size; have := HBD.out.size; show wr.heap.size ≤ wy2.heap.size; omega)⟩
                                              clear hgr hgm hgo hne1 hne2
                                              go_wp2_with fail
                                              refine ⟨⟨WB.mk _ (((HBwy3.out.setCell (p := ⟨wy2.heap.size, 0, none⟩) (by have := HBwy2.out.size; have := HBD.out.size; show wr.heap.size ≤ wy2.heap.size; omega) _).setCell (p := ⟨wy2.heap.size, 1, none⟩) (by have := HBwy2.out.size; have := HBD.out.size; show wr.heap.size ≤ wy2.heap.size; omega) _).setCell (p := ⟨wy2.heap.size, 2, none⟩) (by have := HBwy2.out.size; have := HBD.out.size; show wr.heap.size ≤ wy2.heap.size; omega) _), rfl⟩, ?_⟩
                                              refine endS (by kernel_rfl) ?_
                                              exact ⟨rfl, wd.heap.size, wy1.heap.size, wy2.heap.size, rfl, HPO⟩
                                          · as_aux_lemma =>
                                              simp only [List.take_succ_cons, List.take_zero, List.drop_succ_cons, List.drop_zero]
                                              go_wp2_with fail
                                              obtain ⟨wy4, hwy4⟩ : ∃ wy4, wy4 = wy1.alloc (.cells #[.int .i64 0, .slice none 0 0, .slice none 0 0] 43) := ⟨_, rfl⟩
                                              have hbwy4 : Below wy1.heap.size wy1 wy4 := by rw [hwy4]; exact (Below.refl _ _).alloc (Nat.le_refl _) _
                                              have HKowy4 : Hid (Blk wy4 wy1.heap.size 43 [.int .i64 0, .slice none 0 0, .slice none 0 0]) := Lib.hid (by rw [hwy4]; exact Blk.new wy1 43 [.int .i64 0, .slice none 0 0, .slice none 0 0])
                                              have HKrwy4 := Lib.hid (HKrwy1.out.below' hbwy4)
                                              have HBwy4 : Hid (Below wr.heap.size wd wy4) := Lib.hid ((HBwy1.out).trans (hbwy4.mono (by have := (HBwy1.out).size; omega)))
                                              rw [← hwy4]
                                              clear hwy4 hbwy4
                                              refine ⟨⟨WB.mk _ HBwy4.out, rfl⟩, ?_⟩
                                              refine oneS 2 5 (by kernel_rfl) (by decide) ?_
                                              simp only [List.take_succ_cons, List.take_zero, List.drop_succ_cons, List.drop_zero]
                                              go_wp2_with fail
                                              obtain ⟨wy5, hwy5⟩ : ∃ wy5, wy5 = wy4.alloc (.cells (zs (.slice none 0 0) dn2) 34) := ⟨_, rfl⟩
                                              have hbwy5 : Below wy4.heap.size wy4 wy5 := by rw [hwy5]; exact (Below.refl _ _).alloc (Nat.le_refl _) _
                                              have HKmwy5 : Hid (Blk wy5 wy4.heap.size 34 (List.replicate dn2 (.slice none 0 0))) := Lib.hid (by rw [hwy5]; exact Blk.made wy4 34 (.slice none 0 0) dn2)
                                              have HKrwy5 := Lib.hid (HKrwy4.out.below' hbwy5)
                                              have HKowy5 := Lib.hid (HKowy4.out.below' hbwy5)
                                              have HBwy5 : Hid (Below wr.heap.size wd wy5) := Lib.hid ((HBwy4.out).trans (hbwy5.mono (by have := (HBwy4.out).size; omega)))
                                              rw [← hwy5]
                                              clear hwy5 hbwy5
                                              refine ⟨⟨WB.mk _ HBwy5.out, rfl⟩, ?_⟩
                                              show wpAnyS _ _ _ _ _ (1 + 1) _ _ _
                                              refine takeS 1 6 1 (by kernel_rfl) (by kernel_rfl) (fun _ _ _ _ _ h => nomatch h.1) ⟨⟨_, HBwy5.out⟩, rfl⟩ ?_
                                              simp only [List.take_succ_cons, List.take_zero, List.drop_succ_cons, List.drop_zero]
                                              repeat (first | go_big_quiet_skip | (go_big_quiet_want; go_big_quiet_op; go_big_quiet_on))
                                              refine wpQuiet_nil ?_
                                              refine oneS 0 8 (by kernel_rfl) (by decide) ?_
                                              simp only [List.take_succ_cons, List.take_zero, List.drop_succ_cons, List.drop_zero]
                                              have e0 := HKowy5.out.cell (i := 0) rfl
                                              have e1 := HKowy5.out.cell (i := 1) rfl
                                              have e2 := HKowy5.out.cell (i := 2) rfl
                                              have f0 := HKowy5.out.frozen 0
                                              have f1 := HKowy5.out.frozen 1
                                              have f2 := HKowy5.out.frozen 2
                                              have hgr := HKrwy5.out
                                              have hgm := HKmwy5.out
                                              have hgo := HKowy5.out
                                              have hne1 : wd.heap.size ≠ wy1.heap.size := fun e => by rw [e] at hgr; unfold Blk at hgr hgo; rw [hgo] at hgr; simp at hgr
                                              have hne2 : wy4.heap.size ≠ wy1.heap.size := fun e => by rw [e] at hgm; unfold Blk at hgm hgo; rw [hgo] at hgm; simp at hgm
                                              have HPO : Hid (Below wr.heap.size wr ((((wy5.setCell ⟨wy1.heap.size, 0, none⟩ (.int .i64 (K : Int))).setCell ⟨wy1.heap.size, 1, none⟩ (.slice (some ⟨wd.heap.size, 0, none⟩) dn2 dn2)).setCell ⟨wy1.heap.size, 2, none⟩ (.slice (some ⟨wy4.heap.size, 0, none⟩) dn2 dn2))) ∧ Blk ((((wy5.setCell ⟨wy1.heap.size, 0, none⟩ (.int .i64 (K : Int))).setCell ⟨wy1.heap.size, 1, none⟩ (.slice (some ⟨wd.heap.size, 0, none⟩) dn2 dn2)).setCell ⟨wy1.heap.size, 2, none⟩ (.slice (some ⟨wy4.heap.size, 0, none⟩) dn2 dn2))) wd.heap.size 3 (iv (List.replicate dn2 0)) ∧ Blk ((((wy5.setCell ⟨wy1.heap.size, 0, none⟩ (.int .i64 (K : Int))).setCell ⟨wy1.heap.size, 1, none⟩ (.slice (some ⟨wd.heap.size, 0, none⟩) dn2 dn2)).setCell ⟨wy1.heap.size, 2, none⟩ (.slice (some ⟨wy4.heap.size, 0, none⟩) dn2 dn2))) wy4.heap.size 34 (List.replicate dn2 (.slice none 0 0)) ∧ Blk ((((wy5.setCell ⟨wy1.heap.size, 0, none⟩ (.int .i64 (K : Int))).setCell ⟨wy1.heap.size, 1, none⟩ (.slice (some ⟨wd.heap.size, 0, none⟩) dn2 dn2)).setCell ⟨wy1.heap.size, 2, none⟩ (.slice (some ⟨wy4.heap.size, 0, none⟩) dn2 dn2))) wy1.heap.size 43 [.int .i64 (K : Int), .slice (some ⟨wd.heap.size, 0, none⟩) dn2 dn2, .slice (some ⟨wy4.heap.size, 0, none⟩) dn2 dn2] ∧ wr.heap.size ≤ wd.heap.size ∧ wr.heap.size ≤ wy4.heap.size ∧ wr.heap.size ≤ wy1.heap.size) := Lib.hid ⟨(HBD.out.trans ((((HBwy5.out.setCell (p := ⟨wy1.heap.size, 0, none⟩) (by have := HBwy1.out.size; have := HBD.out.size; show wr.heap.size ≤ wy1.heap.size; omega) _).setCell (p := ⟨wy1.heap.size, 1, none⟩) (by have := HBwy1.out.size; have := HBD.out.size; show wr.heap.size ≤ wy1.heap.size; omega) _).setCell (p := ⟨wy1.heap.size, 2, none⟩) (by have := HBwy1.out.size; have := HBD.out.size; show wr.heap.size ≤ wy1.heap.size; omega) _))), ((hgr.far (p := ⟨wy1.heap.size, 0, none⟩) hne1 _).far (p := ⟨wy1.heap.size, 1, none⟩) hne1 _).far (p := ⟨wy1.heap.size, 2, none⟩) hne1 _, ((hgm.far (p := ⟨wy1.heap.size, 0, none⟩) hne2 _).far (p := ⟨wy1.heap.size, 1, none⟩) hne2 _).far (p := ⟨wy1.heap.size, 2, none⟩) hne2 _, ((hgo.set_ 0 _).set_ 1 _).set_ 2 _, (by show wr.heap.size ≤ wd.heap.size; have := HBD.out.size; omega), (by have := HBwy4.out.size; have := HBD.out.size; show wr.heap.size ≤ wy4.heap.size; omega), (by have := HBwy1.out.size; have := HBD.out.size; show wr.heap.size ≤ wy1.heap.size; omega)⟩
                                              clear hgr hgm hgo hne1 hne2
                                              go_wp2_with fail
                                              refine ⟨⟨WB.mk _ (((HBwy5.out.setCell (p := ⟨wy1.heap.size, 0, none⟩) (by have := HBwy1.out.size; have := HBD.out.size; show wr.heap.size ≤ wy1.heap.size; omega) _).setCell (p := ⟨wy1.heap.size, 1, none⟩) (by have := HBwy1.out.size; have := HBD.out.size; show wr.heap.size ≤ wy1.heap.size; omega) _).setCell (p := ⟨wy1.heap.size, 2, none⟩) (by have := HBwy1.out.size; have := HBD.out.size; show wr.heap.size ≤ wy1.heap.size; omega) _), rfl⟩, ?_⟩
                                              refine endS (by kernel_rfl) ?_
                                              exact ⟨rfl, wd.heap.size, wy4.heap.size, wy1.heap.size, rfl, HPO⟩
                                      · as_aux_lemma =>
                                          simp only [List.take_succ_cons, List.take_zero, List.drop_succ_cons, List.drop_zero]
                                          go_wp2_with fail
                                          obtain ⟨wy6, hwy6⟩ : ∃ wy6, wy6 = wd.alloc (.cells (zs (.slice none 0 0) dn2) 34) := ⟨_, rfl⟩
                                          have hbwy6 : Below wd.heap.size wd wy6 := by rw [hwy6]; exact (Below.refl _ _).alloc (Nat.le_refl _) _
                                          have HKmwy6 : Hid (Blk wy6 wd.heap.size 34 (List.replicate dn2 (.slice none 0 0))) := Lib.hid (by rw [hwy6]; exact Blk.made wd 34 (.slice none 0 0) dn2)
                                          have HBwy6 : Hid (Below wr.heap.size wd wy6) := Lib.hid ((Below.refl wr.heap.size wd).trans (hbwy6.mono (by have := (Below.refl wr.heap.size wd).size; omega)))
                                          rw [← hwy6]
                                          clear hwy6 hbwy6
                                          refine ⟨⟨WB.mk _ HBwy6.out, rfl⟩, ?_⟩
                                          refine twoS 3 3 7 (by kernel_rfl) (by decide) (by decide) ?_ ?_
                                          · as_aux_lemma =>
                                              simp only [List.take_succ_cons, List.take_zero, List.drop_succ_cons, List.drop_zero]
                                              go_wp2_with fail
                                              obtain ⟨wy7, hwy7⟩ : ∃ wy7, wy7 = wy6.alloc (.cells (zs (.int .i64 0) dn2) 3) := ⟨_, rfl⟩
                                              have hbwy7 : Below wy6.heap.size wy6 wy7 := by rw [hwy7]; exact (Below.refl _ _).alloc (Nat.le_refl _) _
                                              have HKrwy7 : Hid (Blk wy7 wy6.heap.size 3 (iv (List.replicate dn2 0))) := Lib.hid (by rw [hwy7, ← iv_rep]; exact Blk.made wy6 3 (.int .i64 0) dn2)
                                              have HKmwy7 := Lib.hid (HKmwy6.out.below' hbwy7)
                                              have HBwy7 : Hid (Below wr.heap.size wd wy7) := Lib.hid ((HBwy6.out).trans (hbwy7.mono (by have := (HBwy6.out).size; omega)))
                                              rw [← hwy7]
                                              clear hwy7 hbwy7
                                              refine ⟨⟨WB.mk _ HBwy7.out, rfl⟩, ?_⟩
                                              show wpAnyS _ _ _ _ _ (2 + 1) _ _ _
                                              refine takeS 2 6 1 (by kernel_rfl) (by kernel_rfl) (fun _ _ _ _ _ h => nomatch h.1) ⟨⟨_, HBwy7.out⟩, rfl⟩ ?_
                                              simp only [List.take_succ_cons, List.take_zero, List.drop_succ_cons, List.drop_zero]
                                              repeat (first | go_big_quiet_skip | (go_big_quiet_want; go_big_quiet_op; go_big_quiet_on))
                                              refine wpQuiet_nil ?_
                                              refine oneS 1 7 (by kernel_rfl) (by decide) ?_
                                              simp only [List.take_succ_cons, List.take_zero, List.drop_succ_cons, List.drop_zero]
                                              go_wp2_with fail
                                              obtain ⟨wy8, hwy8⟩ : ∃ wy8, wy8 = wy7.alloc (.cells #[.int .i64 0, .slice none 0 0, .slice none 0 0] 43) := ⟨_, rfl⟩
                                              have hbwy8 : Below wy7.heap.size wy7 wy8 := by rw [hwy8]; exact (Below.refl _ _).alloc (Nat.le_refl _) _
                                              have HKowy8 : Hid (Blk wy8 wy7.heap.size 43 [.int .i64 0, .slice none 0 0, .slice none 0 0]) := Lib.hid (by rw [hwy8]; exact Blk.new wy7 43 [.int .i64 0, .slice none 0 0, .slice none 0 0])
                                              have HKmwy8 := Lib.hid (HKmwy7.out.below' hbwy8)
                                              have HKrwy8 := Lib.hid (HKrwy7.out.below' hbwy8)
                                              have HBwy8 : Hid (Below wr.heap.size wd wy8) := Lib.hid ((HBwy7.out).trans (hbwy8.mono (by have := (HBwy7.out).size; omega)))
                                              rw [← hwy8]
                                              clear hwy8 hbwy8
                                              refine ⟨⟨WB.mk _ HBwy8.out, rfl⟩, ?_⟩
                                              refine oneS 0 8 (by kernel_rfl) (by decide) ?_
                                              simp only [List.take_succ_cons, List.take_zero, List.drop_succ_cons, List.drop_zero]
                                              have e0 := HKowy8.out.cell (i := 0) rfl
                                              have e1 := HKowy8.out.cell (i := 1) rfl
                                              have e2 := HKowy8.out.cell (i := 2) rfl
                                              have f0 := HKowy8.out.frozen 0
                                              have f1 := HKowy8.out.frozen 1
                                              have f2 := HKowy8.out.frozen 2
                                              have hgr := HKrwy8.out
                                              have hgm := HKmwy8.out
                                              have hgo := HKowy8.out
                                              have hne1 : wy6.heap.size ≠ wy7.heap.size := fun e => by rw [e] at hgr; unfold Blk at hgr hgo; rw [hgo] at hgr; simp at hgr
                                              have hne2 : wd.heap.size ≠ wy7.heap.size := fun e => by rw [e] at hgm; unfold Blk at hgm hgo; rw [hgo] at hgm; simp at hgm
                                              have HPO : Hid (Below wr.heap.size wr ((((wy8.setCell ⟨wy7.heap.size, 0, none⟩ (.int .i64 (K : Int))).setCell ⟨wy7.heap.size, 1, none⟩ (.slice (some ⟨wy6.heap.size, 0, none⟩) dn2 dn2)).setCell ⟨wy7.heap.size, 2, none⟩ (.slice (some ⟨wd.heap.size, 0, none⟩) dn2 dn2))) ∧ Blk ((((wy8.setCell ⟨wy7.heap.size, 0, none⟩ (.int .i64 (K : Int))).setCell ⟨wy7.heap.size, 1, none⟩ (.slice (some ⟨wy6.heap.size, 0, none⟩) dn2 dn2)).setCell ⟨wy7.heap.size, 2, none⟩ (.slice (some ⟨wd.heap.size, 0, none⟩) dn2 dn2))) wy6.heap.size 3 (iv (List.replicate dn2 0)) ∧ Blk ((((wy8.setCell ⟨wy7.heap.size, 0, none⟩ (.int .i64 (K : Int))).setCell ⟨wy7.heap.size, 1, none⟩ (.slice (some ⟨wy6.heap.size, 0, none⟩) dn2 dn2)).setCell ⟨wy7.heap.size, 2, none⟩ (.slice (some ⟨wd.heap.size, 0, none⟩) dn2 dn2))) wd.heap.size 34 (List.replicate dn2 (.slice none 0 0)) ∧ Blk ((((wy8.setCell ⟨wy7.heap.size, 0, none⟩ (.int .i64 (K : Int))).setCell ⟨wy7.heap.size, 1, none⟩ (.slice (some ⟨wy6.heap.size, 0, none⟩) dn2 dn2)).setCell ⟨wy7.heap.size, 2, none⟩ (.slice (some ⟨wd.heap.size, 0, none⟩) dn2 dn2))) wy7.heap.size 43 [.int .i64 (K : Int), .slice (some ⟨wy6.heap.size, 0, none⟩) dn2 dn2, .slice (some ⟨wd.heap.size, 0, none⟩) dn2 dn2] ∧ wr.heap.size ≤ wy6.heap.size ∧ wr.heap.size ≤ wd.heap.size ∧ wr.heap.size ≤ wy7.heap.size) := Lib.hid ⟨(HBD.out.trans ((((HBwy8.out.setCell (p := ⟨wy7.heap.size, 0, none⟩) (by have := HBwy7.out.size; have := HBD.out.size; show wr.heap.size ≤ wy7.heap.size; omega) _).setCell (p := ⟨wy7.heap.size, 1, none⟩) (by have := HBwy7.out.size; have := HBD.out.size; show wr.heap.size ≤ wy7.heap.size; omega) _).setCell (p := ⟨wy7.heap.size, 2, none⟩) (by have := HBwy7.out.size; have := HBD.out.size; show wr.heap.size ≤ wy7.heap.size; omega) _))), ((hgr.far (p := ⟨wy7.heap.size, 0, none⟩) hne1 _).far (p := ⟨wy7.heap.size, 1, none⟩) hne1 _).far (p := ⟨wy7.heap.size, 2, none⟩) hne1 _, ((hgm.far (p := ⟨wy7.heap.size, 0, none⟩) hne2 _).far (p := ⟨wy7.heap.size, 1, none⟩) hne2 _).far (p := ⟨wy7.heap.size, 2, none⟩) hne2 _, ((hgo.set_ 0 _).set_ 1 _).set_ 2 _, (by have := HBwy6.out.size; have := HBD.out.size; show wr.heap.size ≤ wy6.heap.size; omega), (by show wr.heap.size ≤ wd.heap.size; have := HBD.out.size; omega), (by have := HBwy7.out.size; have := HBD.out.size; show wr.heap.size ≤ wy7.heap.size; omega)⟩
                                              clear hgr hgm hgo hne1 hne2
                                              go_wp2_with fail
                                              refine ⟨⟨WB.mk _ (((HBwy8.out.setCell (p := ⟨wy7.heap.size, 0, none⟩) (by have := HBwy7.out.size; have := HBD.out.size; show wr.heap.size ≤ wy7.heap.size; omega) _).setCell (p := ⟨wy7.heap.size, 1, none⟩) (by have := HBwy7.out.size; have := HBD.out.size; show wr.heap.size ≤ wy7.heap.size; omega) _).setCell (p := ⟨wy7.heap.size, 2, none⟩) (by have := HBwy7.out.size; have := HBD.out.size; show wr.heap.size ≤ wy7.heap.size; omega) _), rfl⟩, ?_⟩
                                              refine endS (by kernel_rfl) ?_
                                              exact ⟨rfl, wy6.heap.size, wd.heap.size, wy7.heap.size, rfl, HPO⟩
                                          · as_aux_lemma =>
                                              simp only [List.take_succ_cons, List.take_zero, List.drop_succ_cons, List.drop_zero]
                                              go_wp2_with fail
                                              obtain ⟨wy9, hwy9⟩ : ∃ wy9, wy9 = wy6.alloc (.cells #[.int .i64 0, .slice none 0 0, .slice none 0 0] 43) := ⟨_, rfl⟩
                                              have hbwy9 : Below wy6.heap.size wy6 wy9 := by rw [hwy9]; exact (Below.refl _ _).alloc (Nat.le_refl _) _
                                              have HKowy9 : Hid (Blk wy9 wy6.heap.size 43 [.int .i64 0, .slice none 0 0, .slice none 0 0]) := Lib.hid (by rw [hwy9]; exact Blk.new wy6 43 [.int .i64 0, .slice none 0 0, .slice none 0 0])
                                              have HKmwy9 := Lib.hid (HKmwy6.out.below' hbwy9)
                                              have HBwy9 : Hid (Below wr.heap.size wd wy9) := Lib.hid ((HBwy6.out).trans (hbwy9.mono (by have := (HBwy6.out).size; omega)))
                                              rw [← hwy9]
                                              clear hwy9 hbwy9
                                              refine ⟨⟨WB.mk _ HBwy9.out, rfl⟩, ?_⟩
                                              refine oneS 2 3 (by kernel_rfl) (by decide) ?_
                                              simp only [List.take_succ_cons, List.take_zero, List.drop_succ_cons, List.drop_zero]
                                              go_wp2_with fail
                                              obtain ⟨wy10, hwy10⟩ : ∃ wy10, wy10 = wy9.alloc (.cells (zs (.int .i64 0) dn2) 3) := ⟨_, rfl⟩
                                              have hbwy10 : Below wy9.heap.size wy9 wy10 := by rw [hwy10]; exact (Below.refl _ _).alloc (Nat.le_refl _) _
                                              have HKrwy10 : Hid (Blk wy10 wy9.heap.size 3 (iv (List.replicate dn2 0))) := Lib.hid (by rw [hwy10, ← iv_rep]; exact Blk.made wy9 3 (.int .i64 0) dn2)
                                              have HKmwy10 := Lib.hid (HKmwy9.out.below' hbwy10)
                                              have HKowy10 := Lib.hid (HKowy9.out.below' hbwy10)
                                              have HBwy10 : Hid (Below wr.heap.size wd wy10) := Lib.hid ((HBwy9.out).trans (hbwy10.mono (by have := (HBwy9.out).size; omega)))
                                              rw [← hwy10]
                                              clear hwy10 hbwy10
                                              refine ⟨⟨WB.mk _ HBwy10.out, rfl⟩, ?_⟩
                                              show wpAnyS _ _ _ _ _ (1 + 1) _ _ _
                                              refine takeS 1 6 1 (by kernel_rfl) (by kernel_rfl) (fun _ _ _ _ _ h => nomatch h.1) ⟨⟨_, HBwy10.out⟩, rfl⟩ ?_
                                              simp only [List.take_succ_cons, List.take_zero, List.drop_succ_cons, List.drop_zero]
                                              repeat (first | go_big_quiet_skip | (go_big_quiet_want; go_big_quiet_op; go_big_quiet_on))
                                              refine wpQuiet_nil ?_
                                              refine oneS 0 8 (by kernel_rfl) (by decide) ?_
                                              simp only [List.take_succ_cons, List.take_zero, List.drop_succ_cons, List.drop_zero]
                                              have e0 := HKowy10.out.cell (i := 0) rfl
                                              have e1 := HKowy10.out.cell (i := 1) rfl
                                              have e2 := HKowy10.out.cell (i := 2) rfl
                                              have f0 := HKowy10.out.frozen 0
                                              have f1 := HKowy10.out.frozen 1
                                              have f2 := HKowy10.out.frozen 2
                                              have hgr := HKrwy10.out
                                              have hgm := HKmwy10.out
                                              have hgo := HKowy10.out
                                              have hne1 : wy9.heap.size ≠ wy6.heap.size := fun e => by rw [e] at hgr; unfold Blk at hgr hgo; rw [hgo] at hgr; simp at hgr
                                              have hne2 : wd.heap.size ≠ wy6.heap.size := fun e => by rw [e] at hgm; unfold Blk at hgm hgo; rw [hgo] at hgm; simp at hgm
                                              have HPO : Hid (Below wr.heap.size wr ((((wy10.setCell ⟨wy6.heap.size, 0, none⟩ (.int .i64 (K : Int))).setCell ⟨wy6.heap.size, 1, none⟩ (.slice (some ⟨wy9.heap.size, 0, none⟩) dn2 dn2)).setCell ⟨wy6.heap.size, 2, none⟩ (.slice (some ⟨wd.heap.size, 0, none⟩) dn2 dn2))) ∧ Blk ((((wy10.setCell ⟨wy6.heap.size, 0, none⟩ (.int .i64 (K : Int))).setCell ⟨wy6.heap.size, 1, none⟩ (.slice (some ⟨wy9.heap.size, 0, none⟩) dn2 dn2)).setCell ⟨wy6.heap.size, 2, none⟩ (.slice (some ⟨wd.heap.size, 0, none⟩) dn2 dn2))) wy9.heap.size 3 (iv (List.replicate dn2 0)) ∧ Blk ((((wy10.setCell ⟨wy6.heap.size, 0, none⟩ (.int .i64 (K : Int))).setCell ⟨wy6.heap.size, 1, none⟩ (.slice (some ⟨wy9.heap.size, 0, none⟩) dn2 dn2)).setCell ⟨wy6.heap.size, 2, none⟩ (.slice (some ⟨wd.heap.size, 0, none⟩) dn2 dn2))) wd.heap.size 34 (List.replicate dn2 (.slice none 0 0)) ∧ Blk ((((wy10.setCell ⟨wy6.heap.size, 0, none⟩ (.int .i64 (K : Int))).setCell ⟨wy6.heap.size, 1, none⟩ (.slice (some ⟨wy9.heap.size, 0, none⟩) dn2 dn2)).setCell ⟨wy6.heap.size, 2, none⟩ (.slice (some ⟨wd.heap.size, 0, none⟩) dn2 dn2))) wy6.heap.size 43 [.int .i64 (K : Int), .slice (some ⟨wy9.heap.size, 0, none⟩) dn2 dn2, .slice (some ⟨wd.heap.size, 0, none⟩) dn2 dn2] ∧ wr.heap.size ≤ wy9.heap.size ∧ wr.heap.size ≤ wd.heap.size ∧ wr.heap.size ≤ wy6.heap.size) := Lib.hid ⟨(HBD.out.trans ((((HBwy10.out.setCell (p := ⟨wy6.heap.size, 0, none⟩) (by have := HBwy6.out.size; have := HBD.out.size; show wr.heap.size ≤ wy6.heap.size; omega) _).setCell (p := ⟨wy6.heap.size, 1, none⟩) (by have := HBwy6.out.size; have := HBD.out.size; show wr.heap.size ≤ wy6.heap.size; omega) _).setCell (p := ⟨wy6.heap.size, 2, none⟩) (by have := HBwy6.out.size; have := HBD.out.size; show wr.heap.size ≤ wy6.heap.size; omega) _))), ((hgr.far (p := ⟨wy6.heap.size, 0, none⟩) hne1 _).far (p := ⟨wy6.heap.size, 1, none⟩) hne1 _).far (p := ⟨wy6.heap.size, 2, none⟩) hne1 _, ((hgm.far (p := ⟨wy6.heap.size, 0, none⟩) hne2 _).far (p := ⟨wy6.heap.size, 1, none⟩) hne2 _).far (p := ⟨wy6.heap.size, 2, none⟩) hne2 _, ((hgo.set_ 0 _).set_ 1 _).set_ 2 _, (by have := HBwy9.out.size; have := HBD.out.size; show wr.heap.size ≤ wy9.heap.size; omega), (by show wr.heap.size ≤ wd.heap.size; have := HBD.out.size; omega), (by have := HBwy6.out.size; have := HBD.out.size; show wr.heap.size ≤ wy6.heap.size; omega)⟩
                                              clear hgr hgm hgo hne1 hne2
                                              go_wp2_with fail
                                              refine ⟨⟨WB.mk _ (((HBwy10.out.setCell (p := ⟨wy6.heap.size, 0, none⟩) (by have := HBwy6.out.size; have := HBD.out.size; show wr.heap.size ≤ wy6.heap.size; omega) _).setCell (p := ⟨wy6.heap.size, 1, none⟩) (by have := HBwy6.out.size; have := HBD.out.size; show wr.heap.size ≤ wy6.heap.size; omega) _).setCell (p := ⟨wy6.heap.size, 2, none⟩) (by have := HBwy6.out.size; have := HBD.out.size; show wr.heap.size ≤ wy6.heap.size; omega) _), rfl⟩, ?_⟩
                                              refine endS (by kernel_rfl) ?_
                                              exact ⟨rfl, wy9.heap.size, wd.heap.size, wy6.heap.size, rfl, HPO⟩
                                      · as_aux_lemma =>
                                          simp only [List.take_succ_cons, List.take_zero, List.drop_succ_cons, List.drop_zero]
                                          go_wp2_with fail
                                          obtain ⟨wy11, hwy11⟩ : ∃ wy11, wy11 = wd.alloc (.cells #[.int .i64 0, .slice none 0 0, .slice none 0 0] 43) := ⟨_, rfl⟩
                                          have hbwy11 : Below wd.heap.size wd wy11 := by rw [hwy11]; exact (Below.refl _ _).alloc (Nat.le_refl _) _
                                          have HKowy11 : Hid (Blk wy11 wd.heap.size 43 [.int .i64 0, .slice none 0 0, .slice none 0 0]) := Lib.hid (by rw [hwy11]; exact Blk.new wd 43 [.int .i64 0, .slice none 0 0, .slice none 0 0])
                                          have HBwy11 : Hid (Below wr.heap.size wd wy11) := Lib.hid ((Below.refl wr.heap.size wd).trans (hbwy11.mono (by have := (Below.refl wr.heap.size wd).size; omega)))
                                          rw [← hwy11]
                                          clear hwy11 hbwy11
                                          refine ⟨⟨WB.mk _ HBwy11.out, rfl⟩, ?_⟩
                                          refine twoS 3 3 5 (by kernel_rfl) (by decide) (by decide) ?_ ?_
                                          · as_aux_lemma =>
                                              simp only [List.take_succ_cons, List.take_zero, List.drop_succ_cons, List.drop_zero]
                                              go_wp2_with fail
                                              obtain ⟨wy12, hwy12⟩ : ∃ wy12, wy12 = wy11.alloc (.cells (zs (.int .i64 0) dn2) 3) := ⟨_, rfl⟩
                                              have hbwy12 : Below wy11.heap.size wy11 wy12 := by rw [hwy12]; exact (Below.refl _ _).alloc (Nat.le_refl _) _
                                              have HKrwy12 : Hid (Blk wy12 wy11.heap.size 3 (iv (List.replicate dn2 0))) := Lib.hid (by rw [hwy12, ← iv_rep]; exact Blk.made wy11 3 (.int .i64 0) dn2)
                                              have HKowy12 := Lib.hid (HKowy11.out.below' hbwy12)
                                              have HBwy12 : Hid (Below wr.heap.size wd wy12) := Lib.hid ((HBwy11.out).trans (hbwy12.mono (by have := (HBwy11.out).size; omega)))
                                              rw [← hwy12]
                                              clear hwy12 hbwy12
                                              refine ⟨⟨WB.mk _ HBwy12.out, rfl⟩, ?_⟩
                                              refine oneS 2 5 (by kernel_rfl) (by decide) ?_
                                              simp only [List.take_succ_cons, List.take_zero, List.drop_succ_cons, List.drop_zero]
                                              go_wp2_with fail
                                              obtain ⟨wy13, hwy13⟩ : ∃ wy13, wy13 = wy12.alloc (.cells (zs (.slice none 0 0) dn2) 34) := ⟨_, rfl⟩
                                              have hbwy13 : Below wy12.heap.size wy12 wy13 := by rw [hwy13]; exact (Below.refl _ _).alloc (Nat.le_refl _) _
                                              have HKmwy13 : Hid (Blk wy13 wy12.heap.size 34 (List.replicate dn2 (.slice none 0 0))) := Lib.hid (by rw [hwy13]; exact Blk.made wy12 34 (.slice none 0 0) dn2)
                                              have HKowy13 := Lib.hid (HKowy12.out.below' hbwy13)
                                              have HKrwy13 := Lib.hid (HKrwy12.out.below' hbwy13)
                                              have HBwy13 : Hid (Below wr.heap.size wd wy13) := Lib.hid ((HBwy12.out).trans (hbwy13.mono (by have := (HBwy12.out).size; omega)))
                                              rw [← hwy13]
                                              clear hwy13 hbwy13
                                              refine ⟨⟨WB.mk _ HBwy13.out, rfl⟩, ?_⟩
                                              show wpAnyS _ _ _ _ _ (1 + 1) _ _ _
                                              refine takeS 1 6 1 (by kernel_rfl) (by kernel_rfl) (fun _ _ _ _ _ h => nomatch h.1) ⟨⟨_, HBwy13.out⟩, rfl⟩ ?_
                                              simp only [List.take_succ_cons, List.take_zero, List.drop_succ_cons, List.drop_zero]
                                              repeat (first | go_big_quiet_skip | (go_big_quiet_want; go_big_quiet_op; go_big_quiet_on))
                                              refine wpQuiet_nil ?_
                                              refine oneS 0 8 (by kernel_rfl) (by decide) ?_
                                              simp only [List.take_succ_cons, List.take_zero, List.drop_succ_cons, List.drop_zero]
                                              have e0 := HKowy13.out.cell (i := 0) rfl
                                              have e1 := HKowy13.out.cell (i := 1) rfl
                                              have e2 := HKowy13.out.cell (i := 2) rfl
                                              have f0 := HKowy13.out.frozen 0
                                              have f1 := HKowy13.out.frozen 1
                                              have f2 := HKowy13.out.frozen 2
                                              have hgr := HKrwy13.out
                                              have hgm := HKmwy13.out
                                              have hgo := HKowy13.out
                                              have hne1 : wy11.heap.size ≠ wd.heap.size := fun e => by rw [e] at hgr; unfold Blk at hgr hgo; rw [hgo] at hgr; simp at hgr
                                              have hne2 : wy12.heap.size ≠ wd.heap.size := fun e => by rw [e] at hgm; unfold Blk at hgm hgo; rw [hgo] at hgm; simp at hgm
                                              have HPO : Hid (Below wr.heap.size wr ((((wy13.setCell ⟨wd.heap.size, 0, none⟩ (.int .i64 (K : Int))).setCell ⟨wd.heap.size, 1, none⟩ (.slice (some ⟨wy11.heap.size, 0, none⟩) dn2 dn2)).setCell ⟨wd.heap.size, 2, none⟩ (.slice (some ⟨wy12.heap.size, 0, none⟩) dn2 dn2))) ∧ Blk ((((wy13.setCell ⟨wd.heap.size, 0, none⟩ (.int .i64 (K : Int))).setCell ⟨wd.heap.size, 1, none⟩ (.slice (some ⟨wy11.heap.size, 0, none⟩) dn2 dn2)).setCell ⟨wd.heap.size, 2, none⟩ (.slice (some ⟨wy12.heap.size, 0, none⟩) dn2 dn2))) wy11.heap.size 3 (iv (List.replicate dn2 0)) ∧ Blk ((((wy13.setCell ⟨wd.heap.size, 0, none⟩ (.int .i64 (K : Int))).setCell ⟨wd.heap.size, 1, none⟩ (.slice (some ⟨wy11.heap.size, 0, none⟩) dn2 dn2)).setCell ⟨wd.heap.size, 2, none⟩ (.slice (some ⟨wy12.heap.size, 0, none⟩) dn2 dn2))) wy12.heap.size 34 (List.replicate dn2 (.slice none 0 0)) ∧ Blk ((((wy13.setCell ⟨wd.heap.size, 0, none⟩ (.int .i64 (K : Int))).setCell ⟨wd.heap.size, 1, none⟩ (.slice (some ⟨wy11.heap.size, 0, none⟩) dn2 dn2)).setCell ⟨wd.heap.size, 2, none⟩ (.slice (some ⟨wy12.heap.size, 0, none⟩) dn2 dn2))) wd.heap.size 43 [.int .i64 (K : Int), .slice (some ⟨wy11.heap.size, 0, none⟩) dn2 dn2, .slice (some ⟨wy12.heap.size, 0, none⟩) dn2 dn2] ∧ wr.heap.size ≤ wy11.heap.size ∧ wr.heap.size ≤ wy12.heap.size ∧ wr.heap.size ≤ wd.heap.size) := Lib.hid ⟨(HBD.out.trans ((((HBwy13.out.setCell (p := ⟨wd.heap.size, 0, none⟩) (by show wr.heap.size ≤ wd.heap.size; have := HBD.out.size; omega) _).setCell (p := ⟨wd.heap.size, 1, none⟩) (by show wr.heap.size ≤ wd.heap.size; have := HBD.out.size; omega) _).setCell (p := ⟨wd.heap.size, 2, none⟩) (by show wr.heap.size ≤ wd.heap.size; have := HBD.out.size; omega) _))), ((hgr.far (p := ⟨wd.heap.size, 0, none⟩) hne1 _).far (p := ⟨wd.heap.size, 1, none⟩) hne1 _).far (p := ⟨wd.heap.size, 2, none⟩) hne1 _, ((hgm.far (p := ⟨wd.heap.size, 0, none⟩) hne2 _).far (p := ⟨wd.heap.size, 1, none⟩) hne2 _).far (p := ⟨wd.heap.size, 2, none⟩) hne2 _, ((hgo.set_ 0 _).set_ 1 _).set_ 2 _, (by have := HBwy11.out.size; have := HBD.out.size; show wr.heap.size ≤ wy11.heap.size; omega), (by have := HBwy12.out.size; have := HBD.out.size; show wr.heap.size ≤ wy12.heap.size; omega), (by show wr.heap.size ≤ wd.heap.size; have := HBD.out.size; omega)⟩
                                              clear hgr hgm hgo hne1 hne2
                                              go_wp2_with fail
                                              refine ⟨⟨WB.mk _ (((HBwy13.out.setCell (p := ⟨wd.heap.size, 0, none⟩) (by show wr.heap.size ≤ wd.heap.size; have := HBD.out.size; omega) _).setCell (p := ⟨wd.heap.size, 1, none⟩) (by show wr.heap.size ≤ wd.heap.size; have := HBD.out.size; omega) _).setCell (p := ⟨wd.heap.size, 2, none⟩) (by show wr.heap.size ≤ wd.heap.size; have := HBD.out.size; omega) _), rfl⟩, ?_⟩
                                              refine endS (by kernel_rfl) ?_
                                              exact ⟨rfl, wy11.heap.size, wy12.heap.size, wd.heap.size, rfl, HPO⟩
                                          · as_aux_lemma =>
                                              simp only [List.take_succ_cons, List.take_zero, List.drop_succ_cons, List.drop_zero]
                                              go_wp2_with fail
                                              obtain ⟨wy14, hwy14⟩ : ∃ wy14, wy14 = wy11.alloc (.cells (zs (.slice none 0 0) dn2) 34) := ⟨_, rfl⟩
                                              have hbwy14 : Below wy11.heap.size wy11 wy14 := by rw [hwy14]; exact (Below.refl _ _).alloc (Nat.le_refl _) _
                                              have HKmwy14 : Hid (Blk wy14 wy11.heap.size 34 (List.replicate dn2 (.slice none 0 0))) := Lib.hid (by rw [hwy14]; exact Blk.made wy11 34 (.slice none 0 0) dn2)
                                              have HKowy14 := Lib.hid (HKowy11.out.below' hbwy14)
                                              have HBwy14 : Hid (Below wr.heap.size wd wy14) := Lib.hid ((HBwy11.out).trans (hbwy14.mono (by have := (HBwy11.out).size; omega)))
                                              rw [← hwy14]
                                              clear hwy14 hbwy14
                                              refine ⟨⟨WB.mk _ HBwy14.out, rfl⟩, ?_⟩
                                              refine oneS 2 3 (by kernel_rfl) (by decide) ?_
                                              simp only [List.take_succ_cons, List.take_zero, List.drop_succ_cons, List.drop_zero]
                                              go_wp2_with fail
                                              obtain ⟨wy15, hwy15⟩ : ∃ wy15, wy15 = wy14.alloc (.cells (zs (.int .i64 0) dn2) 3) := ⟨_, rfl⟩
                                              have hbwy15 : Below wy14.heap.size wy14 wy15 := by rw [hwy15]; exact (Below.refl _ _).alloc (Nat.le_refl _) _
                                              have HKrwy15 : Hid (Blk wy15 wy14.heap.size 3 (iv (List.replicate dn2 0))) := Lib.hid (by rw [hwy15, ← iv_rep]; exact Blk.made wy14 3 (.int .i64 0) dn2)
                                              have HKowy15 := Lib.hid (HKowy14.out.below' hbwy15)
                                              have HKmwy15 := Lib.hid (HKmwy14.out.below' hbwy15)
                                              have HBwy15 : Hid (Below wr.heap.size wd wy15) := Lib.hid ((HBwy14.out).trans (hbwy15.mono (by have := (HBwy14.out).size; omega)))
                                              rw [← hwy15]
                                              clear hwy15 hbwy15
                                              refine ⟨⟨WB.mk _ HBwy15.out, rfl⟩, ?_⟩
                                              show wpAnyS _ _ _ _ _ (1 + 1) _ _ _
                                              refine takeS 1 6 1 (by kernel_rfl) (by kernel_rfl) (fun _ _ _ _ _ h => nomatch h.1) ⟨⟨_, HBwy15.out⟩, rfl⟩ ?_
                                              simp only [List.take_succ_cons, List.take_zero, List.drop_succ_cons, List.drop_zero]
                                              repeat (first | go_big_quiet_skip | (go_big_quiet_want; go_big_quiet_op; go_big_quiet_on))
                                              refine wpQuiet_nil ?_
                                              refine oneS 0 8 (by kernel_rfl) (by decide) ?_
                                              simp only [List.take_succ_cons, List.take_zero, List.drop_succ_cons, List.drop_zero]
                                              have e0 := HKowy15.out.cell (i := 0) rfl
                                              have e1 := HKowy15.out.cell (i := 1) rfl
                                              have e2 := HKowy15.out.cell (i := 2) rfl
                                              have f0 := HKowy15.out.frozen 0
                                              have f1 := HKowy15.out.frozen 1
                                              have f2 := HKowy15.out.frozen 2
                                              have hgr := HKrwy15.out
                                              have hgm := HKmwy15.out
                                              have hgo := HKowy15.out
                                              have hne1 : wy14.heap.size ≠ wd.heap.size := fun e => by rw [e] at hgr; unfold Blk at hgr hgo; rw [hgo] at hgr; simp at hgr
                                              have hne2 : wy11.heap.size ≠ wd.heap.size := fun e => by rw [e] at hgm; unfold Blk at hgm hgo; rw [hgo] at hgm; simp at hgm
                                              have HPO : Hid (Below wr.heap.size wr ((((wy15.setCell ⟨wd.heap.size, 0, none⟩ (.int .i64 (K : Int))).setCell ⟨wd.heap.size, 1, none⟩ (.slice (some ⟨wy14.heap.size, 0, none⟩) dn2 dn2)).setCell ⟨wd.heap.size, 2, none⟩ (.slice (some ⟨wy11.heap.size, 0, none⟩) dn2 dn2))) ∧ Blk ((((wy15.setCell ⟨wd.heap.size, 0, none⟩ (.int .i64 (K : Int))).setCell ⟨wd.heap.size, 1, none⟩ (.slice (some ⟨wy14.heap.size, 0, none⟩) dn2 dn2)).setCell ⟨wd.heap.size, 2, none⟩ (.slice (some ⟨wy11.heap.size, 0, none⟩) dn2 dn2))) wy14.heap.size 3 (iv (List.replicate dn2 0)) ∧ Blk ((((wy15.setCell ⟨wd.heap.size, 0, none⟩ (.int .i64 (K : Int))).setCell ⟨wd.heap.size, 1, none⟩ (.slice (some ⟨wy14.heap.size, 0, none⟩) dn2 dn2)).setCell ⟨wd.heap.size, 2, none⟩ (.slice (some ⟨wy11.heap.size, 0, none⟩) dn2 dn2))) wy11.heap.size 34 (List.replicate dn2 (.slice none 0 0)) ∧ Blk ((((wy15.setCell ⟨wd.heap.size, 0, none⟩ (.int .i64 (K : Int))).setCell ⟨wd.heap.size, 1, none⟩ (.slice (some ⟨wy14.heap.size, 0, none⟩) dn2 dn2)).setCell ⟨wd.heap.size, 2, none⟩ (.slice (some ⟨wy11.heap.size, 0, none⟩) dn2 dn2))) wd.heap.size 43 [.int .i64 (K : Int), .slice (some ⟨wy14.heap.size, 0, none⟩) dn2 dn2, .slice (some ⟨wy11.heap.size, 0, none⟩) dn2 dn2] ∧ wr.heap.size ≤ wy14.heap.size ∧ wr.heap.size ≤ wy11.heap.size ∧ wr.heap.size ≤ wd.heap.size) := Lib.hid ⟨(HBD.out.trans ((((HBwy15.out.setCell (p := ⟨wd.heap.size, 0, none⟩) (by show wr.heap.size ≤ wd.heap.size; have := HBD.out.size; omega) _).setCell (p := ⟨wd.heap.size, 1, none⟩) (by show wr.heap.size ≤ wd.heap.size; have := HBD.out.size; omega) _).setCell (p := ⟨wd.heap.size, 2, none⟩) (by show wr.heap.size ≤ wd.heap.size; have := HBD.out.size; omega) _))), ((hgr.far (p := ⟨wd.heap.size, 0, none⟩) hne1 _).far (p := ⟨wd.heap.size, 1, none⟩) hne1 _).far (p := ⟨wd.heap.size, 2, none⟩) hne1 _, ((hgm.far (p := ⟨wd.heap.size, 0, none⟩) hne2 _).far (p := ⟨wd.heap.size, 1, none⟩) hne2 _).far (p := ⟨wd.heap.size, 2, none⟩) hne2 _, ((hgo.set_ 0 _).set_ 1 _).set_ 2 _, (by have := HBwy14.out.size; have := HBD.out.size; show wr.heap.size ≤ wy14.heap.size; omega), (by have := HBwy11.out.size; have := HBD.out.size; show wr.heap.size ≤ wy11.heap.size; omega), (by show wr.heap.size ≤ wd.heap.size; have := HBD.out.size; omega)⟩
                                              clear hgr hgm hgo hne1 hne2
                                              go_wp2_with fail
                                              refine ⟨⟨WB.mk _ (((HBwy15.out.setCell (p := ⟨wd.heap.size, 0, none⟩) (by show wr.heap.size ≤ wd.heap.size; have := HBD.out.size; omega) _).setCell (p := ⟨wd.heap.size, 1, none⟩) (by show wr.heap.size ≤ wd.heap.size; have := HBD.out.size; omega) _).setCell (p := ⟨wd.heap.size, 2, none⟩) (by show wr.heap.size ≤ wd.heap.size; have := HBD.out.size; omega) _), rfl⟩, ?_⟩
                                              refine endS (by kernel_rfl) ?_
                                              exact ⟨rfl, wy14.heap.size, wy11.heap.size, wd.heap.size, rfl, HPO⟩
                                  · rintro a' w7 ⟨gr, gm, go, rfl, HPO⟩
                                    --P6
                                    obtain ⟨hb7, hr7, hm7, ho7, hg1, hg2, hg3⟩ := HPO.out
                                    have HOM0 : Hid (Om w7 w7 gr gm m K dn2 pn (List.replicate dn2 0) (List.replicate dn2 (.slice none 0 0)) 0 (fun k => ru (oAt O (fstOf m pn k))) (fun k => minRow mv K O pn k)) := Lib.hid (Om.start hr7 hm7)
                                    have HO7 := Lib.hid ho7
                                    have HB7 : Hid (Below gp wo w7) := Lib.hid (HBR.out.trans (hb7.mono (by omega)))
                                    have HC7 : Hid (∀ q : Addr, q.block < gp → w7.cell? q = wo.cell? q) := Lib.hid (fun q h1 => HB7.out.cell h1)
                                    have HBN7 : Hid (Blk w7 gn 3 (iv L2)) := Lib.hid (HB2.out.below' hb7)
                                    have hgn7 : gn < wr.heap.size := HB2.out.lt
                                    have hgnr : gn ≠ gr := by omega
                                    have hgnm : gn ≠ gm := by omega
                                    have hgor : go ≠ gr := fun e => by subst e; unfold Blk at hr7 ho7; rw [ho7] at hr7; simp at hr7
                                    have hgom : go ≠ gm := fun e => by subst e; unfold Blk at hm7 ho7; rw [ho7] at hm7; simp at hm7
                                    have hz7 := hb7.size
                                    have hgrp : gp ≤ gr := by omega
                                    have hgmp : gp ≤ gm := by omega
                                    have hgol := ho7.lt
                                    clear k0 hwd HBD hmr hmm HPO hb7 hr7 hm7 ho7 hzd
                                    go_wp2_with fail
                                    have hmi := fun w => mk_ints (n := K) (by omega) w
                                    go_loopw [181] (fun i wr => ∃ (i' : Nat) (RL : List Int) (vs : List Value), i' ≤ m ∧ i = .int .i64 (i' : Int) ∧ Hid (Om w7 wr gr gm m K dn2 pn RL vs i' (fun k => ru (oAt O (fstOf m pn k))) (fun k => minRow mv K O pn k))) (fun i _ => m - (intOf i).toNat)
                                    case atStart => exact ⟨0, _, _, Nat.zero_le _, rfl, HOM0⟩
                                    case round =>
                                      as_aux_lemma =>
                                        clear HOM0
                                        obtain ⟨j, RL, vs, hj, rfl, HOM⟩ := hrel
                                        have HCW : Hid (∀ q : Addr, q.block < w7.heap.size → q.block ≠ gr → q.block ≠ gm → wr.cell? q = w7.cell? q) := Lib.hid (fun q h1 h2 h3 => HOM.out.kp.cell h1 (fun e => by rcases e with e | e; exact h2 e; exact h3 e))
                                        have HCO7 : Hid (∀ q : Addr, q.block < gp → wr.cell? q = wo.cell? q) := Lib.hid (fun q h1 => (HCW.out q (by omega) (by omega) (by omega)).trans (HC7.out q h1))
                                        by_cases hjm : j < m
                                        · as_aux_lemma =>
                                            have d5 : decide ((j : Int) < (m : Int)) = true := decide_eq_true (by omega)
                                            obtain ⟨c1, hsN⟩ := HOD.out j hjm
                                            have y0 := (HCO7.out ⟨ob, j, none⟩ hobg).trans c1
                                            have y1 := (HCW.out ⟨gn, j, none⟩ (show gn < _ by omega) hgnr hgnm).trans (HBN7.out.icell (k := j) (by rw [HL4.out.1]; exact hjm))
                                            rw [HL4.out.2 j hjm] at y1
                                            have hkgo : Blk wr go 43 [.int .i64 (K : Int), .slice (some ⟨gr, 0, none⟩) dn2 dn2, .slice (some ⟨gm, 0, none⟩) dn2 dn2] := (HOM.out.kp.block go hgol (fun e => by rcases e with e | e; exact hgor e; exact hgom e)).trans HO7.out
                                            have y2 := hkgo.cell (i := 2) rfl
                                            have hpc : pn j < dn2 := by have := HMI.out.lt j (by rw [← HM.out]; exact hjm); exact this
                                            have hfle := fstOf_le (pn := pn) hjm
                                            have hfsp := (fstOf_spec (part := pn) hjm).2
                                            have HON : Hid (∀ p, p < dn2 → ∃ j, j < m ∧ pn j = p) := Lib.hid (by rw [HM.out]; exact HMI.out.on)
                                            obtain ⟨s, hs⟩ : ∃ s, s = oAt O j := ⟨_, rfl⟩
                                            have HSS := Lib.hid hs
                                            rw [← hs] at y0 hsN
                                            by_cases hf : fstOf m pn (pn j) < j
                                            · as_aux_lemma =>
                                                obtain ⟨-, b, q1, q2, q3⟩ := HOM.out.old _ hpc hf
                                                have y3 := HOM.out.mm.cell q1
                                                have HOM2 := Lib.hid (HOM.out.skip HON.out hf)
                                                have hnil : ∀ w : World, (binOp .eql 34 (.slice (some ⟨b, 0, none⟩) K K) (.slice none 0 0)).run Tryz.prog w = .ok (.bool false) w := fun _ => rfl
                                                clear q1 q3 hs c1 hkgo hfsp
                                                go_wp2_with fail
                                                go_roundw
                                                case rel => exact ⟨j + 1, RL, vs, by omega, by go_num, HOM2⟩
                                                case measure => simp [intOf]; omega
                                            · as_aux_lemma =>
                                                have hfe : fstOf m pn (pn j) = j := by omega
                                                have y3 := HOM.out.mm.cell (HOM.out.new _ hpc (by omega))
                                                have hnil : ∀ w : World, (binOp .eql 34 (.slice none 0 0) (.slice none 0 0)).run Tryz.prog w = .ok (.bool true) w := fun _ => rfl
                                                have y4 := (HCO7.out ⟨g, 0, none⟩ (show g < gp by omega)).trans (HKDO.out.cell (i := 0) rfl)
                                                have y5 := (HCO7.out ⟨g, 2, none⟩ (show g < gp by omega)).trans (HKDO.out.cell (i := 2) rfl)
                                                obtain ⟨mb, mo, rfl, hmb, hmc⟩ := HRM.out wo HWO.out (by rw [HDN.out.lm]; exact hN)
                                                obtain ⟨Ar', cr', z1, z2, z3, z4⟩ := hmc s (by rw [HDN.out.lm]; exact hsN)
                                                rw [HDN.out.row _ hsN] at z1 z2
                                                have y6 := (HCO7.out ⟨mb, mo + s, none⟩ (show mb < gp by omega)).trans z1
                                                have HR4 := Lib.hid z4
                                                unfold maxLen at z3
                                                obtain ⟨wm, hwm⟩ : ∃ wm, wm = wr.alloc (.cells (zs (.int .i64 0) K) 3) := ⟨_, rfl⟩
                                                obtain ⟨bk, hbk⟩ : ∃ bk, bk = wr.heap.size := ⟨_, rfl⟩
                                                have hsm : wm.heap.size = bk + 1 := by rw [hwm, hbk]; simp
                                                have hbm : Below bk wr wm := by rw [hwm, hbk]; exact (Below.refl _ _).alloc (Nat.le_refl _) _
                                                have hblk : Blk wm bk 3 (iv (List.replicate K 0)) := by rw [hwm, hbk, ← iv_rep]; exact Blk.made wr 3 (.int .i64 0) K
                                                have hw7k : w7.heap.size ≤ bk := by rw [hbk]; exact HOM.out.kp.size
                                                have y6 := (hbm.cell (p := ⟨mb, mo + s, none⟩) (show mb < bk by omega)).trans y6
                                                have y5 := (hbm.cell (p := ⟨g, 2, none⟩) (show g < bk by omega)).trans y5
                                                have HBM := Lib.hid hbm; have HBLK := Lib.hid hblk; have HBK := Lib.hid hbk; have HSM := Lib.hid hsm
                                                have HKGO := Lib.hid hkgo
                                                clear z1 z4 hmc hs c1 hkgo hfsp hbm hblk hsm
                                                go_upto_region 53 with (fail)
                                                rw [← hbk, ← hwm]
                                                clear hwm hbk y0 y1 y2 y3 y4
                                                go_wp2_with fail
                                                clear y5 y6
                                                obtain ⟨wq, rfl⟩ : ∃ wq : World, wq = wr := ⟨_, rfl⟩
                                                go_loopw [205] (fun cx wr => ∃ (c : Nat) (L : List Int), c ≤ K ∧ cx = .int .i64 (c : Int) ∧ Hid (Kp (fun q => q = bk) wm wr) ∧ Hid (Blk wr bk 3 (iv L)) ∧ Hid (L.length = K ∧ ∀ t, t < c → nth L t = ((pn (O.idxOf (mv s t)) : Nat) : Int))) (fun cx _ => K - (intOf cx).toNat)
                                                case atStart => exact ⟨0, _, Nat.zero_le _, rfl, Kp.refl _ _, HBLK, Lib.hid ⟨List.length_replicate, fun t h => absurd h (by omega)⟩⟩
                                                case round =>
                                                  as_aux_lemma =>
                                                    clear HBLK
                                                    obtain ⟨c, L, hc, rfl, HKP8, HBL8, HL8⟩ := hrel
                                                    have hsm := HSM.out
                                                    have hbk := HBK.out
                                                    have hz8 := HKP8.out.size
                                                    have HCQ : Hid (∀ q : Addr, q.block < bk → wr.cell? q = wq.cell? q) := Lib.hid (fun q h1 => (HKP8.out.cell (p := q) (by omega) (by show ¬ (q.block = bk); omega)).trans (HBM.out.cell h1))
                                                    clear hsm hbk
                                                    by_cases hcK : c < K
                                                    · as_aux_lemma =>
                                                        have d6 : decide ((c : Int) < (K : Int)) = true := decide_eq_true (by omega)
                                                        obtain ⟨rb, ro, rfl, hrb, hrc⟩ := HR4.out.at_ (by rw [HDN.out.row s hsN]; omega)
                                                        have z5 := hrc c (by rw [HDN.out.row s hsN]; exact hcK)
                                                        rw [(HDN.out.mv s c hsN hcK).1] at z5
                                                        have y4 := (HCQ.out ⟨rb, ro + c, none⟩ (show rb < bk by omega)).trans ((HCO7.out ⟨rb, ro + c, none⟩ (show rb < gp by omega)).trans z5)
                                                        have hidx := (HAT.out j c hjm hcK).1
                                                        rw [← HSS.out] at hidx
                                                        have hte := (HDN.out.mv s c hsN hcK).2
                                                        have hw7r : w7.heap.size ≤ wr.heap.size := by have := HSM.out; omega
                                                        have him8 : IMap wr (g + 1 + 1 + 1) O.length (idxI O) := by
                                                          have q1 := HSM.out
                                                          have q2 := HBK.out
                                                          have h1 := HIM.out.ext (by rw [← HGP.out]; exact HB7.out)
                                                          have h2 := h1.of_block (w' := wq) (HOM.out.kp.block _ (by omega) (fun e => by rcases e with e | e <;> omega))
                                                          have h3 := h2.ext (by rw [← HBK.out]; exact HBM.out)
                                                          exact h3.of_block (HKP8.out.block _ (by omega) (by show ¬ (g + 1 + 1 + 1 = bk); omega))
                                                        obtain ⟨tt, htt⟩ : ∃ tt, tt = mv s c := ⟨_, rfl⟩
                                                        rw [← htt] at y4 hidx hte
                                                        have lk := him8.look1 (wfI_nat (a := tt) (by omega))
                                                        rw [idxI_nat, if_pos (List.idxOf_lt_length_iff.1 (by rw [← HM.out]; exact hidx))] at lk
                                                        simp only [Option.getD_some] at lk
                                                        obtain ⟨ix, hix⟩ : ∃ ix, ix = O.idxOf tt := ⟨_, rfl⟩
                                                        rw [← hix] at lk hidx
                                                        have y6 := (HCQ.out ⟨gn, ix, none⟩ (show gn < bk by omega)).trans ((HCW.out ⟨gn, ix, none⟩ (show gn < _ by omega) hgnr hgnm).trans (HBN7.out.icell (k := ix) (by rw [HL4.out.1]; exact hidx)))
                                                        rw [HL4.out.2 ix hidx] at y6
                                                        have y7 := HBL8.out.icell (k := c) (by rw [HL8.out.1]; exact hcK)
                                                        have y8 := HBL8.out.frozen c
                                                        have HL9 : Hid ((L.set c ((pn ix : Nat) : Int)).length = K ∧ ∀ t, t < c + 1 → nth (L.set c ((pn ix : Nat) : Int)) t = ((pn (O.idxOf (mv s t)) : Nat) : Int)) := Lib.hid ⟨by rw [List.length_set]; exact HL8.out.1, fun t ht => by
                                                          rw [nth_set (by rw [HL8.out.1]; exact hcK)]
                                                          by_cases e : c = t
                                                          · subst e; rw [if_pos rfl, ← htt, ← hix]
                                                          · rw [if_neg e]; exact HL8.out.2 t (by omega)⟩
                                                        generalize nth L c = o1 at *
                                                        generalize pn ix = px at *
                                                        clear him8 htt hix hrc z5
                                                        go_wp2_with fail
                                                        go_roundw
                                                        case rel => exact ⟨c + 1, _, by omega, by go_num, Lib.hid (HKP8.out.set_ (p := ⟨bk, c, none⟩) (.inr rfl) _), Lib.hid (HBL8.out.iset c (px : Int)), HL9⟩
                                                        case measure => simp [intOf]; omega
                                                    · as_aux_lemma =>
                                                        have d6 : decide ((c : Int) < (K : Int)) = false := decide_eq_false (by omega)
                                                        have ecK : c = K := by omega
                                                        have hl8 := HL8.out
                                                        rw [ecK] at hl8
                                                        have hLe : L = minRow mv K O pn (pn j) := by
                                                          unfold minRow
                                                          rw [← HM.out, hfe, ← HSS.out]
                                                          apply List.ext_getElem
                                                          · rw [hl8.1]; simp
                                                          · intro t h1 h2
                                                            have := hl8.2 t (by rw [hl8.1] at h1; exact h1)
                                                            rw [nth_get h1] at this
                                                            rw [this]; simp
                                                        obtain ⟨wd, hwd⟩ : ∃ wd, wd = wr.drew := ⟨_, rfl⟩
                                                        have hsm := HSM.out
                                                        have hbk := HBK.out
                                                        have hbq : Below wq.heap.size wq wd := by
                                                          have h1 : Below bk wm wr := HKP8.out.bel (by omega) (fun q h1 h2 => by omega)
                                                          rw [hwd, ← hbk]
                                                          exact (HBM.out.trans h1).drew
                                                        have HOMd := Lib.hid (HOM.out.ext hbq)
                                                        have HBKd : Hid (Blk wd bk 3 (iv (minRow mv K O pn (pn j)))) := Lib.hid (by rw [hwd, ← hLe]; exact HBL8.out.drew)
                                                        have hzq := hbq.size
                                                        have hcq : Hid (∀ q : Addr, q.block < bk → wd.cell? q = wq.cell? q) := Lib.hid (fun q h1 => hbq.cell (by omega))
                                                        obtain ⟨rb, ro, rfl, hrb, hrc⟩ := (HRI.out wo HWO.out).at_ (by rw [HDN.out.lr]; exact hN)
                                                        have z5 := hrc s (by rw [HDN.out.lr]; exact hsN)
                                                        rw [HDN.out.eq s hsN] at z5
                                                        have hw7d : w7.heap.size ≤ wd.heap.size := by omega
                                                        have kb : ∀ (Z : KB (fun q => q = gr ∨ q = gm) wd) (q : Addr), q.block < bk → q.block ≠ gr → q.block ≠ gm → Z.val.cell? q = wq.cell? q := fun Z q h1 h2 h3 => (Z.kp.cell (p := q) (by omega) (fun e => by rcases e with e | e; exact h2 e; exact h3 e)).trans (hcq.out q h1)
                                                        have k1 : ∀ Z : KB (fun q => q = gr ∨ q = gm) wd, Z.val.cell? ⟨go, 1, none⟩ = some (.slice (some ⟨gr, 0, none⟩) dn2 dn2) := fun Z => (kb Z ⟨go, 1, none⟩ (show go < bk by omega) hgor hgom).trans (HKGO.out.cell (i := 1) rfl)
                                                        have k2 : ∀ Z : KB (fun q => q = gr ∨ q = gm) wd, Z.val.cell? ⟨go, 2, none⟩ = some (.slice (some ⟨gm, 0, none⟩) dn2 dn2) := fun Z => (kb Z ⟨go, 2, none⟩ (show go < bk by omega) hgor hgom).trans (HKGO.out.cell (i := 2) rfl)
                                                        have k3 : ∀ Z : KB (fun q => q = gr ∨ q = gm) wd, Z.val.cell? ⟨g, 1, none⟩ = some (.slice (some ⟨rb, ro, none⟩) N cr) := fun Z => (kb Z ⟨g, 1, none⟩ (show g < bk by omega) (show g ≠ gr by omega) (show g ≠ gm by omega)).trans ((HCO7.out ⟨g, 1, none⟩ (show g < gp by omega)).trans (HKDO.out.cell (i := 1) rfl))
                                                        have k4 : ∀ Z : KB (fun q => q = gr ∨ q = gm) wd, Z.val.cell? ⟨rb, ro + s, none⟩ = some (.int .i64 (ru s)) := fun Z => (kb Z ⟨rb, ro + s, none⟩ (show rb < bk by omega) (show rb ≠ gr by omega) (show rb ≠ gm by omega)).trans ((HCO7.out ⟨rb, ro + s, none⟩ (show rb < gp by omega)).trans z5)
                                                        have HRUs : Hid (ru s = (fun k => ru (oAt O (fstOf m pn k))) (pn j)) := Lib.hid (by show _ = ru (oAt O (fstOf m pn (pn j))); rw [hfe, ← HSS.out])
                                                        have hbk7 : w7.heap.size ≤ bk := by omega
                                                        clear ecK hl8 hLe hbq hzq hcq hrc z5 kb HKP8 HBL8 HL8 HCQ hsm hbk
                                                        go_wp2_with fail
                                                        refine wp_region_S (fun w' => ∃ X : KB (fun q => q = gr ∨ q = gm) wd, w' = X.val) (by kernel_rfl) ?_
                                                        rw [← hwd]
                                                        clear hwd
                                                        show wpAnyS _ _ _ _ _ (3 + 13) _ _ _
                                                        refine takeS 3 0 13 (by kernel_rfl) (by kernel_rfl) (fun _ _ d _ _ h => by cases d <;> exact h) ⟨⟨_, Kp.refl _ _⟩, rfl⟩ ?_
                                                        simp only [List.take_succ_cons, List.take_zero, List.drop_succ_cons, List.drop_zero]
                                                        repeat (first | go_big_quiet_skip | (go_big_quiet_want; go_big_quiet_op; go_big_quiet_on))
                                                        refine wpQuiet_nil ?_
                                                        clear k1 k2 k3 k4
                                                        have q1 := HOMd.out.r.icell (k := pn j) (by rw [HOMd.out.lr]; exact hpc)
                                                        have q2 := HOMd.out.r.frozen (pn j)
                                                        have q3 := ((HOMd.out.mm.far (p := ⟨gr, pn j, none⟩) (Ne.symm HOMd.out.ne) (.int .i64 (ru s)))).cell (HOMd.out.new _ hpc (by omega))
                                                        have q4 := ((HOMd.out.mm.far (p := ⟨gr, pn j, none⟩) (Ne.symm HOMd.out.ne) (.int .i64 (ru s)))).frozen (pn j)
                                                        generalize nth RL (pn j) = o1 at *
                                                        refine oneS 2 13 (by kernel_rfl) (by decide) ?_
                                                        simp only [List.take_succ_cons, List.take_zero, List.drop_succ_cons, List.drop_zero]
                                                        go_wp2_with fail
                                                        refine ⟨⟨KB.mk _ ((Kp.refl _ _).set_ (p := ⟨gr, pn j, none⟩) (.inr (.inl rfl)) _), rfl⟩, ?_⟩
                                                        show wpAnyS _ _ _ _ _ (1 + 1) _ _ _
                                                        refine takeS 1 14 1 (by kernel_rfl) (by kernel_rfl) (fun _ _ d _ _ h => by cases d <;> exact h) ⟨KB.mk _ ((Kp.refl _ _).set_ (p := ⟨gr, pn j, none⟩) (.inr (.inl rfl)) _), rfl⟩ ?_
                                                        simp only [List.take_succ_cons, List.take_zero, List.drop_succ_cons, List.drop_zero]
                                                        repeat (first | go_big_quiet_skip | (go_big_quiet_want; go_big_quiet_op; go_big_quiet_on))
                                                        refine wpQuiet_nil ?_
                                                        refine oneS 0 15 (by kernel_rfl) (by decide) ?_
                                                        simp only [List.take_succ_cons, List.take_zero, List.drop_succ_cons, List.drop_zero]
                                                        go_wp2_with fail
                                                        refine ⟨⟨KB.mk _ (((Kp.refl _ _).set_ (p := ⟨gr, pn j, none⟩) (.inr (.inl rfl)) _).set_ (p := ⟨gm, pn j, none⟩) (.inr (.inr rfl)) _), rfl⟩, ?_⟩
                                                        refine endS (by kernel_rfl) ?_
                                                        have HOM9 : Hid (Om w7 ((wd.setCell ⟨gr, pn j, none⟩ (.int .i64 (ru s))).setCell ⟨gm, pn j, none⟩ (.slice (some ⟨bk, 0, none⟩) K K)) gr gm m K dn2 pn (RL.set (pn j) (ru s)) (vs.set (pn j) (.slice (some ⟨bk, 0, none⟩) K K)) (j + 1) (fun k => ru (oAt O (fstOf m pn k))) (fun k => minRow mv K O pn k)) := Lib.hid (by rw [HRUs.out]; exact HOMd.out.put HON.out hpc hfe hbk7 HBKd.out)
                                                        clear q1 q2 q3 q4
                                                        go_wp2_with fail
                                                        go_roundw
                                                        case rel => exact ⟨j + 1, _, _, by omega, by go_num, HOM9⟩
                                                        case measure => simp [intOf]; omega
                                        · as_aux_lemma =>
                                            --P7
                                            have d5 : decide ((j : Int) < (m : Int)) = false := decide_eq_false (by omega)
                                            have ejm : j = m := by omega
                                            have hom := HOM.out
                                            rw [ejm] at hom
                                            have hkgo : Blk wr go 43 [.int .i64 (K : Int), .slice (some ⟨gr, 0, none⟩) dn2 dn2, .slice (some ⟨gm, 0, none⟩) dn2 dn2] := (hom.kp.block go hgol (fun e => by rcases e with e | e; exact hgor e; exact hgom e)).trans HO7.out
                                            have y0 := hkgo.cell (i := 0) rfl
                                            have y1 := hkgo.cell (i := 1) rfl
                                            have y2 := hkgo.cell (i := 2) rfl
                                            have hbw7 : Below (g + 1 + 1) W0 wr := (HWO.out.trans (HB7.out.mono (by omega))).trans ((hom.kp.bel (by omega) (fun q h1 h2 => by omega)))
                                            have hkr := HKR.out.below hbw7 (by omega)
                                            have r0 := hkr.cell (i := 0) rfl
                                            have r1 := hkr.cell (i := 1) rfl
                                            have r2 := hkr.cell (i := 2) rfl
                                            have f0 := hkr.frozen 0
                                            have f1 := hkr.frozen 1
                                            have f2 := hkr.frozen 2
                                            have hbw : Below g w wr := HB0.out.trans (hbw7.mono (by omega))
                                            have hon : ∀ p, p < dn2 → ∃ j, j < m ∧ pn j = p := by rw [HM.out]; exact HMI.out.on
                                            have HKRR := Lib.hid hkr; have HBW := Lib.hid hbw; have HOMm := Lib.hid hom; have HON := Lib.hid hon
                                            have hdn60 : dn2 ≤ 60 := by
                                              have := hmore2; omega
                                            have hg1r : g + 1 ≠ gr := by omega
                                            have hg1m : g + 1 ≠ gm := by omega
                                            clear ejm hom hkgo hbw7 hkr hbw hon HOM HCW HCO7
                                            go_wp2_with fail
                                            obtain ⟨w9, hw9⟩ : ∃ w9, w9 = (((wr.setCell ⟨g + 1, 0, none⟩ (.int .i64 (K : Int))).setCell ⟨g + 1, 1, none⟩ (.slice (some ⟨gr, 0, none⟩) dn2 dn2)).setCell ⟨g + 1, 2, none⟩ (.slice (some ⟨gm, 0, none⟩) dn2 dn2)) := ⟨_, rfl⟩
                                            have k9 : Blk w9 (g + 1) 43 [.int .i64 (K : Int), .slice (some ⟨gr, 0, none⟩) dn2 dn2, .slice (some ⟨gm, 0, none⟩) dn2 dn2] := by rw [hw9]; exact ((HKRR.out.set_ 0 _).set_ 1 _).set_ 2 _
                                            have hb9 : Below g wr w9 := by rw [hw9]; exact (((Below.refl _ _).setCell (p := ⟨g + 1, 0, none⟩) (show g ≤ g + 1 by omega) _).setCell (p := ⟨g + 1, 1, none⟩) (show g ≤ g + 1 by omega) _).setCell (p := ⟨g + 1, 2, none⟩) (show g ≤ g + 1 by omega) _
                                            have hk9 : ∀ q, q < wr.heap.size → q ≠ g + 1 → w9.heap[q]? = wr.heap[q]? := fun q _ h2 => by rw [hw9, Below.heap_setCell _ _ _ _ h2, Below.heap_setCell _ _ _ _ h2, Below.heap_setCell _ _ _ _ h2]
                                            rw [← hw9]
                                            clear hw9
                                            refine bodyPost_ret (results_cell_row rfl _ _ (g + 1) _ #[.int .i64 (K : Int), .slice (some ⟨gr, 0, none⟩) dn2 dn2, .slice (some ⟨gm, 0, none⟩) dn2 dn2] _ _ rfl k9 Tryz.underlying43 rfl (by kernel_rfl)) rfl ?_
                                            have hgw := HG.out
                                            obtain ⟨d1, d2⟩ := HOMm.out.done HON.out (by unfold maxLen; omega) (fun p _ => by unfold minRow; simp) (show g + 1 < w7.heap.size by omega) hg1r hg1m hk9
                                            refine ⟨O, pn, dn2, some ⟨gr, 0, none⟩, some ⟨gm, 0, none⟩, dn2, dn2, rfl, HMI.out, Nat.le_refl _, by unfold maxLen; omega, Nat.le_refl _, by unfold maxLen; omega, ?_, ?_, hgw ▸ HBW.out.trans hb9⟩
                                            · unfold minR; rw [← HM.out]; exact d1
                                            · exact d2
                              · as_aux_lemma =>
                                  have dcd : decide (dn2 = count) = false := decide_eq_false hcd
                                  have HBR2 := HBR
                                  clear HSTB HPO HL HBLr HCX HBW HBL
                                  go_wp2_with fail
                                  go_roundw
                                  case rel => exact ⟨gn, L2, pn, dn2, rfl, rfl, hmore2, by omega, HBR2, HB2, HL4, HPN⟩
                                  case measure => simp [intOf]; omega
end Go.Proofs.YthikgdogfkjioaaGreatDoor
