import Derived.Test.YtpfagdmmhgcmnaaGreatDoorMixSk
import Derived.Test.YtpfagdmmhgcmnaaGreatDoorMixUt
import Derived.Test.YtpfagdmmhgcmnaaGreatDoorMixTj
set_option linter.unusedVariables false
set_option linter.unusedSimpArgs false
namespace Go.Proofs.YtpfagdmmhgcmnaaGreatDoor
open Go.RowKit
theorem fieldC1 (a b : Int) (W : World) : (Instr.field 43 (.agg #[.int .i64 a, .int .i64 b]) 1).run Tryz.prog W = .ok (.int .i64 b) W := by kernel_rfl
set_option linter.unusedSimpArgs false in
set_option maxRecDepth 100000 in
set_option maxHeartbeats 40000000 in
theorem spec_l5Least (t : Tbl) (A : Option Addr) (c : Nat) (A' : Option Addr) (c' : Nat) (gr : Int) (n : Nat) (cells : List GCell) (GA : Option Addr) (gc : Nat) (w : World) (hc : Rd colR w A t.cols) (hr : Rd rowR w A' t.rows) (hG : Rd gcR w GA cells)
  (hg : 0 ≤ t.gap ∧ t.gap ≤ 3) (hn : 1 ≤ n ∧ n ≤ 1000) (hcell : ∀ x ∈ cells, CellIn n (fun c => leastT (textOf t c)) x ∧ CellAt t x ∧ 0 ≤ leastT (textOf t x)) (hcl : cells.length ≤ 1000) :
  Calls Tryz.prog 56 #[.agg #[.slice A t.cols.length c, .int .i64 t.head, .int .i64 t.foot, .slice A' t.rows.length c', .int .i64 t.gap], .agg #[.int .i64 gr, .int .i64 n, .slice GA cells.length gc]] w fun e w' => ∃ v, e = .returned v ∧ IOwn w' w.heap.size v (leastL t cells n) ∧ Below w.heap.size w w' := by
 have hZ := fun (W : World) => spec_l5Zero gr n cells GA gc W (by omega)
 have hM := fun (W : World) (h : Below w.heap.size w W) (FA : Option Addr) (fc : Nat) hf => spec_l5Need t A c A' c' gr n cells GA gc true FA fc W (hr.below h) (hG.below h) hf hg hn (by simpa using hcell) hcl
 have hS := fun (W : World) (h : Below w.heap.size w W) (col : Nat) => spec_l5Said t A c A' c' col W (hc.below h) (by omega)
 have hlen : (made t.gap (fun c => leastT (textOf t c)) cells n).length = n := (made_spec hg.1 (fun x hx => (hcell x hx).1)).1.1
 simp only [if_true] at hM
 generalize hX : made t.gap (fun c => leastT (textOf t c)) cells n = X at hM hlen
 have HX := hide hX
 have HL := hide hlen
 clear hc hr hG hcell hX hlen
 go_enter Tryz.func56, Tryz.ntmps56
 have HB := hide (balloc (balloc (brefl w) (.cells #[.slice A t.cols.length c, .int .i64 t.head, .int .i64 t.foot, .slice A' t.rows.length c', .int .i64 t.gap] 26)) (.cells #[.int .i64 gr, .int .i64 n, .slice GA cells.length gc] 35))
 go_upto_region 1 with fail
 go_cut [5] from 5 to 12 (fun s5 wx => ∃ g cc, s5 = .slice (some ⟨g, 0, none⟩) n cc ∧ w.heap.size + 2 ≤ g ∧ Aside (Below w.heap.size w wx) ∧ Aside (IOwn wx w.heap.size (.slice (some ⟨g, 0, none⟩) n cc) X) ∧ wx.cell? ⟨w.heap.size, 0, none⟩ = some (.slice A t.cols.length c) ∧ wx.cell? ⟨w.heap.size, 1, none⟩ = some (.int .i64 t.head) ∧ wx.cell? ⟨w.heap.size, 2, none⟩ = some (.int .i64 t.foot) ∧ wx.cell? ⟨w.heap.size, 3, none⟩ = some (.slice A' t.rows.length c') ∧ wx.cell? ⟨w.heap.size, 4, none⟩ = some (.int .i64 t.gap))
 case first =>
  go_region_with (first
   | (go_at_call 103; refine (hZ _).mono ?_; rintro e w2 ⟨v, rfl, hI, hb2⟩; obtain ⟨c2, f2, s2⟩ := seenBk w.heap.size (by first | (simp; omega) | simp [*]) hb2; obtain ⟨c3, f3, s3⟩ := seenBk (w.heap.size + 1) (by first | (simp; omega) | simp [*]) hb2; obtain ⟨A2, d2, rfl⟩ := hI.form; have hrd := irow_rd hI; rw [List.length_replicate])
   | (go_at_call 102; refine (hM _ ?_ A2 d2 ?_).mono ?_; (first | exact step HB.out hb2 | exact step (bdrew HB.out) hb2 | exact bdrew (step HB.out hb2) | exact bdrew (step (bdrew HB.out) hb2)); (first | exact hrd | exact hrd.below (bdrew (brefl _))); rintro e w3 ⟨v, rfl, hI3, hb3⟩; obtain ⟨c4, f4, s4⟩ := seenBk w.heap.size (by first | (simp; omega) | simp [*]) hb3; obtain ⟨g, cc, rfl, hg1, hg2, _, _⟩ := hI3.at (by rw [HL.out]; exact hn.1); rw [HL.out]; rw [HL.out] at hI3))
  all_goals
   have hsz : w.heap.size ≤ w2.heap.size := Nat.le_trans HB.out.size hb2.size
   have hsz2 : w.heap.size + 2 ≤ w2.heap.size := by have h0 := hb2.size; simp at h0; omega
   have y0 : w3.cell? ⟨w.heap.size, 0, none⟩ = some (.slice A t.cols.length c) := by simp [c4, c2]
   have y1 : w3.cell? ⟨w.heap.size, 1, none⟩ = some (.int .i64 t.head) := by simp [c4, c2]
   have y2 : w3.cell? ⟨w.heap.size, 2, none⟩ = some (.int .i64 t.foot) := by simp [c4, c2]
   have y3 : w3.cell? ⟨w.heap.size, 3, none⟩ = some (.slice A' t.rows.length c') := by simp [c4, c2]
   have y4 : w3.cell? ⟨w.heap.size, 4, none⟩ = some (.int .i64 t.gap) := by simp [c4, c2]
   go_wp2_with fail
   go_meet
   case rel =>
    refine ⟨g, cc, rfl, Nat.le_trans hsz2 hg1, (show Aside _ from ?_), (show Aside _ from ?_), y0, y1, y2, y3, y4⟩
    ·
     show Below _ _ _
     (repeat' (with_reducible first | exact HB.out | refine bdrew ?_ | refine step ?_ (by with_reducible assumption)))
    ·
     first
      | exact hI3.base hsz
      | exact (hI3.base hsz).below (bdrew (brefl _))
 case rest =>
 obtain ⟨g, cc, rfl, hgw, HB2, HI, y0, y1, y2, y3, y4⟩ := hcut
 have HY := hide (And.intro y0 (And.intro y1 (And.intro y2 (And.intro y3 y4))))
 clear y0 y1 y2 y3 y4
 have hfc := fieldC
 go_wp2_with fail
 go_loopg [6] n (fun gg s6 wr => ∃ kk : Nat, kk ≤ n ∧ n - kk ≤ gg ∧ s6 = .int .i64 kk ∧ Aside (Below w.heap.size w wr) ∧ Aside (IOwn wr w.heap.size (.slice (some ⟨g, 0, none⟩) n cc) (fillM (saidN t) kk X)) ∧ Aside (wr.cell? ⟨w.heap.size, 0, none⟩ = some (.slice A t.cols.length c) ∧ wr.cell? ⟨w.heap.size, 1, none⟩ = some (.int .i64 t.head) ∧ wr.cell? ⟨w.heap.size, 2, none⟩ = some (.int .i64 t.foot) ∧ wr.cell? ⟨w.heap.size, 3, none⟩ = some (.slice A' t.rows.length c') ∧ wr.cell? ⟨w.heap.size, 4, none⟩ = some (.int .i64 t.gap)))
 case atStart => exact ⟨0, Nat.zero_le _, by omega, rfl, HB2.out, (show Aside _ from by rw [fillM_zero]; exact HI.out), HY.out⟩
 case round =>
  obtain ⟨kk, hkk, hgg, rfl, HB, HM, HC⟩ := hrel
  by_cases hlt : kk < n
  ·
   have hltz : (kk : Int) < (n : Int) := by omega
   have y0 := HC.out.1
   have y1 := HC.out.2.1
   have y2 := HC.out.2.2.1
   have y3 := HC.out.2.2.2.1
   have y4 := HC.out.2.2.2.2
   have hS5 := hS wr HB.out kk
   obtain ⟨k0, hk0⟩ : ∃ k0, (saidOf t kk).k = k0 := ⟨_, rfl⟩
   obtain ⟨n0, hn0⟩ : ∃ n0, (saidOf t kk).n = n0 := ⟨_, rfl⟩
   have hS6 := hS
   have HST : Hid (∀ x, saidN t kk x = if k0 = 1 then max x n0 else x) := fun x => by unfold saidN; rw [hk0, hn0]
   rw [hk0, hn0] at hS5
   have HN := hide (And.intro hk0 hn0)
   clear hk0 hn0
   have hwl : w.heap.size < wr.heap.size := by
    obtain ⟨g', c2, e, _, h2, _⟩ := HM.out.at (by rw [fillM_length, HL.out]; omega)
    injection e with e; injection e with e; injection e with e; omega
   go_wp2_with fail
   refine hS5.mono ?_
   rintro e w5 ⟨rfl, hb5⟩
   obtain ⟨c5, f5, s5⟩ := seenBk w.heap.size (by first | (simp; omega) | simp [*]) hb5
   have HB5 := hide (step HB.out hb5)
   have HM5 := hide (HM.out.below hb5)
   by_cases h1 : k0 = 1
   ·
    subst h1
    clear hS5
    go_wp2_with fail
    obtain ⟨y, hy⟩ : ∃ y, X.getD kk 0 = y := ⟨_, rfl⟩
    have HMD : Hid (IOwn w5.drew w.heap.size (.slice (some ⟨g, 0, none⟩) n cc) (fillM (saidN t) kk X)) := HM5.out.below (bdrew (brefl _))
    have HBD := hide (bdrew HB5.out)
    have z0 : w5.drew.cell? ⟨w.heap.size, 0, none⟩ = some (.slice A t.cols.length c) := by simp [c5, y0]
    have z1 : w5.drew.cell? ⟨w.heap.size, 1, none⟩ = some (.int .i64 t.head) := by simp [c5, y1]
    have z2 : w5.drew.cell? ⟨w.heap.size, 2, none⟩ = some (.int .i64 t.foot) := by simp [c5, y2]
    have z3 : w5.drew.cell? ⟨w.heap.size, 3, none⟩ = some (.slice A' t.rows.length c') := by simp [c5, y3]
    have z4 : w5.drew.cell? ⟨w.heap.size, 4, none⟩ = some (.int .i64 t.gap) := by simp [c5, y4]
    have hml : kk < (fillM (saidN t) kk X).length := by rw [fillM_length, HL.out]; omega
    have cm := HMD.out.cell (j := kk) hml
    rw [fillM_at, hy] at cm
    have HFZ : Hid (∀ W, Below w5.drew.heap.size w5.drew W → W.frozen? ⟨g, kk, none⟩ = false) := fun W h => (HMD.out.below h).frozen kk
    have HSS : Hid (∀ W, Below w5.drew.heap.size w5.drew W → IOwn (W.setCell ⟨g, kk, none⟩ (.int .i64 (max y n0))) w.heap.size (.slice (some ⟨g, 0, none⟩) n cc) (fillM (saidN t) (kk + 1) X)) := fun W h => by
     have h1 := (HMD.out.below h).store kk (saidN t kk (X.getD kk 0))
     have h2 : saidN t kk (X.getD kk 0) = max y n0 := by rw [hy, HST.out]; simp
     rw [fillM_set _ _ _ (by rw [HL.out]; omega), h2] at h1
     exact h1
    have HS6 : Hid (∀ W, Below w5.drew.heap.size w5.drew W → Calls Tryz.prog 104 #[.agg #[.slice A t.cols.length c, .int .i64 t.head, .int .i64 t.foot, .slice A' t.rows.length c', .int .i64 t.gap], .int .i64 kk] W fun e w' => e = .returned (.agg #[.int .i64 1, .int .i64 n0]) ∧ Below W.heap.size W w') := fun W h => by
     have h1 := hS6 W (step HBD.out h) kk
     rw [HN.out.1, HN.out.2] at h1
     exact h1
    have hgz : w.heap.size < g := by omega
    clear hS6 hml hy y0 y1 y2 y3 y4 c5 f5 hS HM
    obtain ⟨vals, hvals⟩ : ∃ f : Nat → Value, f = (fun j => match j with | 0 => .slice (some ⟨g, 0, none⟩) n cc | 1 => .int .i64 ↑kk | 2 => .slice (some ⟨g, 0, none⟩) n cc | 3 => .int .i64 ↑kk | 4 => .pointer (some ⟨g, kk, none⟩) | 5 => .int .i64 y | 6 => .agg #[.slice A t.cols.length c, .int .i64 t.head, .int .i64 t.foot, .slice A' t.rows.length c', .int .i64 t.gap] | 7 => .int .i64 ↑kk | 8 => .agg #[.int .i64 1, .int .i64 n0] | 9 => .int .i64 n0 | 10 => .int .i64 (max y n0) | 11 => .pointer (some ⟨g, kk, none⟩) | 12 => undef | _ => undef) := ⟨_, rfl⟩
    have e0 : vals 0 = .slice (some ⟨g, 0, none⟩) n cc := congrFun hvals 0
    have e1 : vals 1 = .int .i64 ↑kk := congrFun hvals 1
    have e2 : vals 2 = .slice (some ⟨g, 0, none⟩) n cc := congrFun hvals 2
    have e3 : vals 3 = .int .i64 ↑kk := congrFun hvals 3
    have e4 : vals 4 = .pointer (some ⟨g, kk, none⟩) := congrFun hvals 4
    have e5 : vals 5 = .int .i64 y := congrFun hvals 5
    have e6 : vals 6 = .agg #[.slice A t.cols.length c, .int .i64 t.head, .int .i64 t.foot, .slice A' t.rows.length c', .int .i64 t.gap] := congrFun hvals 6
    have e7 : vals 7 = .int .i64 ↑kk := congrFun hvals 7
    have e8 : vals 8 = .agg #[.int .i64 1, .int .i64 n0] := congrFun hvals 8
    have e9 : vals 9 = .int .i64 n0 := congrFun hvals 9
    have e10 : vals 10 = .int .i64 (max y n0) := congrFun hvals 10
    have e11 : vals 11 = .pointer (some ⟨g, kk, none⟩) := congrFun hvals 11
    have e12 : vals 12 = undef := congrFun hvals 12
    clear hvals
    obtain ⟨dep, hdep⟩ : ∃ f : Nat → List Nat, f = (fun j => match j with | 4 => [2, 3] | 5 => [4] | 8 => [6, 7] | 9 => [8] | 10 => [5, 9, 8] | 11 => [0, 1] | 12 => [11, 10] | _ => []) := ⟨_, rfl⟩
    have d0 : dep 0 = [] := congrFun hdep 0
    have d1 : dep 1 = [] := congrFun hdep 1
    have d2 : dep 2 = [] := congrFun hdep 2
    have d3 : dep 3 = [] := congrFun hdep 3
    have d4 : dep 4 = [2, 3] := congrFun hdep 4
    have d5 : dep 5 = [4] := congrFun hdep 5
    have d6 : dep 6 = [] := congrFun hdep 6
    have d7 : dep 7 = [] := congrFun hdep 7
    have d8 : dep 8 = [6, 7] := congrFun hdep 8
    have d9 : dep 9 = [8] := congrFun hdep 9
    have d10 : dep 10 = [5, 9, 8] := congrFun hdep 10
    have d11 : dep 11 = [0, 1] := congrFun hdep 11
    have d12 : dep 12 = [11, 10] := congrFun hdep 12
    clear hdep
    have HLD : LastD 13 dep := by
     intro L hc k12
     have k11 : L 11 := hc 12 k12 11 (by rw [d12]; simp)
     have k10 : L 10 := hc 12 k12 10 (by rw [d12]; simp)
     have k9 : L 9 := hc 10 k10 9 (by rw [d10]; simp)
     have k8 : L 8 := hc 10 k10 8 (by rw [d10]; simp)
     have k7 : L 7 := hc 8 k8 7 (by rw [d8]; simp)
     have k6 : L 6 := hc 8 k8 6 (by rw [d8]; simp)
     have k5 : L 5 := hc 10 k10 5 (by rw [d10]; simp)
     have k4 : L 4 := hc 5 k5 4 (by rw [d5]; simp)
     have k3 : L 3 := hc 4 k4 3 (by rw [d4]; simp)
     have k2 : L 2 := hc 4 k4 2 (by rw [d4]; simp)
     have k1 : L 1 := hc 11 k11 1 (by rw [d11]; simp)
     have k0 : L 0 := hc 11 k11 0 (by rw [d11]; simp)
     intro j hj
     obtain rfl | rfl | rfl | rfl | rfl | rfl | rfl | rfl | rfl | rfl | rfl | rfl | rfl : j = 0 ∨ j = 1 ∨ j = 2 ∨ j = 3 ∨ j = 4 ∨ j = 5 ∨ j = 6 ∨ j = 7 ∨ j = 8 ∨ j = 9 ∨ j = 10 ∨ j = 11 ∨ j = 12 := by omega
     all_goals assumption
    refine wp_region_inv (fun l a W => ∃ vs : Nat → Value, a = ⟨List.toArray (.agg #[.slice A t.cols.length c, .int .i64 t.head, .int .i64 t.foot, .slice A' t.rows.length c', .int .i64 t.gap] :: .agg #[.int .i64 gr, .int .i64 ↑n, .slice GA cells.length gc] :: .pointer (some ⟨w.heap.size, 0, none⟩) :: .pointer (some ⟨w.heap.size + 1, 0, none⟩) :: .slice none 0 0 :: .slice (some ⟨g, 0, none⟩) n cc :: .int .i64 ↑kk :: u7 :: u8 :: u9 :: u10 :: u11 :: .int .i64 ↑kk :: .slice (some ⟨g, 0, none⟩) n cc :: .int .i64 ↑n :: .bool true :: u16 :: u17 :: .agg #[.slice A t.cols.length c, .int .i64 t.head, .int .i64 t.foot, .slice A' t.rows.length c', .int .i64 t.gap] :: .int .i64 ↑kk :: .agg #[.int .i64 1, .int .i64 n0] :: .int .i64 1 :: .bool true :: vs 0 :: vs 1 :: vs 2 :: vs 3 :: vs 4 :: vs 5 :: vs 6 :: vs 7 :: vs 8 :: vs 9 :: vs 10 :: vs 11 :: undef :: []), []⟩ ∧ BMidS vals 13 dep (w5.drew) ⟨g, kk, none⟩ (.int .i64 (max y n0)) l vs W) (by kernel_rfl) ?top ?start ?step ?fin
    case top =>
     clear e0 e1 e2 e3 e4 e5 e6 e7 e8 e9 e10 e11 e12 d0 d1 d2 d3 d4 d5 d6 d7 d8 d9 d10 d11 d12
     intro j o ho e he
     have hj : j < 13 := (Array.getElem?_eq_some_iff.1 ho).1
     have hA : (o.after.all fun e => decide (e.on < j)) = true := by
      obtain rfl | rfl | rfl | rfl | rfl | rfl | rfl | rfl | rfl | rfl | rfl | rfl | rfl : j = 0 ∨ j = 1 ∨ j = 2 ∨ j = 3 ∨ j = 4 ∨ j = 5 ∨ j = 6 ∨ j = 7 ∨ j = 8 ∨ j = 9 ∨ j = 10 ∨ j = 11 ∨ j = 12 := by omega
      all_goals
       simp only [List.getElem?_toArray, List.getElem?_cons_zero, List.getElem?_cons_succ, Option.some.injEq] at ho
       subst ho
       first | decide | kernel_rfl | simp
     simpa using Array.all_eq_true'.1 hA e he
    case start => exact ⟨(fun j => match j with | 0 => u23 | 1 => u24 | 2 => u25 | 3 => u26 | 4 => u27 | 5 => u28 | 6 => u29 | 7 => u30 | 8 => u31 | 9 => u32 | 10 => u33 | 11 => u34 | _ => undef), rfl, BMidS.start (by decide)⟩
    case step =>
     rintro l a W i o ho hl hpre hsz ⟨vs, rfl, hM0⟩ K hK
     have hi : i < 13 := (Array.getElem?_eq_some_iff.1 ho).1
     have hM := hM0.open HLD hi hl
     obtain rfl | rfl | rfl | rfl | rfl | rfl | rfl | rfl | rfl | rfl | rfl | rfl | rfl : i = 0 ∨ i = 1 ∨ i = 2 ∨ i = 3 ∨ i = 4 ∨ i = 5 ∨ i = 6 ∨ i = 7 ∨ i = 8 ∨ i = 9 ∨ i = 10 ∨ i = 11 ∨ i = 12 := by omega
     ·
      simp only [List.getElem?_toArray, List.getElem?_cons_zero, List.getElem?_cons_succ, Option.some.injEq] at ho
      subst ho
      have hdp : ∀ e ∈ dep 0, l.getD e false = true := by rw [d0]; exact dep_nil
      have e := e0
      clear e0 e1 e2 e3 e4 e5 e6 e7 e8 e9 e10 e11 e12 d0 d1 d2 d3 d4 d5 d6 d7 d8 d9 d10 d11 d12
      go_simp
      exact hK.out _ _ ⟨updV vs 0 (.slice (some ⟨g, 0, none⟩) n cc), rfl, hM0.still HLD 0 (by decide) hl _ e.symm hdp⟩
     ·
      simp only [List.getElem?_toArray, List.getElem?_cons_zero, List.getElem?_cons_succ, Option.some.injEq] at ho
      subst ho
      have hdp : ∀ e ∈ dep 1, l.getD e false = true := by rw [d1]; exact dep_nil
      have e := e1
      clear e0 e1 e2 e3 e4 e5 e6 e7 e8 e9 e10 e11 e12 d0 d1 d2 d3 d4 d5 d6 d7 d8 d9 d10 d11 d12
      go_simp
      exact hK.out _ _ ⟨updV vs 1 (.int .i64 ↑kk), rfl, hM0.still HLD 1 (by decide) hl _ e.symm hdp⟩
     ·
      simp only [List.getElem?_toArray, List.getElem?_cons_zero, List.getElem?_cons_succ, Option.some.injEq] at ho
      subst ho
      have hdp : ∀ e ∈ dep 2, l.getD e false = true := by rw [d2]; exact dep_nil
      have e := e2
      clear e0 e1 e2 e3 e4 e5 e6 e7 e8 e9 e10 e11 e12 d0 d1 d2 d3 d4 d5 d6 d7 d8 d9 d10 d11 d12
      go_simp
      exact hK.out _ _ ⟨updV vs 2 (.slice (some ⟨g, 0, none⟩) n cc), rfl, hM0.still HLD 2 (by decide) hl _ e.symm hdp⟩
     ·
      simp only [List.getElem?_toArray, List.getElem?_cons_zero, List.getElem?_cons_succ, Option.some.injEq] at ho
      subst ho
      have hdp : ∀ e ∈ dep 3, l.getD e false = true := by rw [d3]; exact dep_nil
      have e := e3
      clear e0 e1 e2 e3 e4 e5 e6 e7 e8 e9 e10 e11 e12 d0 d1 d2 d3 d4 d5 d6 d7 d8 d9 d10 d11 d12
      go_simp
      exact hK.out _ _ ⟨updV vs 3 (.int .i64 ↑kk), rfl, hM0.still HLD 3 (by decide) hl _ e.symm hdp⟩
     ·
      simp only [List.getElem?_toArray, List.getElem?_cons_zero, List.getElem?_cons_succ, Option.some.injEq] at ho
      subst ho
      have v2 : vs 2 = .slice (some ⟨g, 0, none⟩) n cc := (hM.held 2 (hpre ⟨2, .data⟩ (by simp) rfl)).trans e2
      have v3 : vs 3 = .int .i64 ↑kk := (hM.held 3 (hpre ⟨3, .data⟩ (by simp) rfl)).trans e3
      have hdp : ∀ e ∈ dep 4, l.getD e false = true := by rw [d4]; exact (dep_cons (hpre ⟨2, .data⟩ (by simp) rfl) (dep_cons (hpre ⟨3, .data⟩ (by simp) rfl) dep_nil))
      have e := e4
      clear e0 e1 e2 e3 e4 e5 e6 e7 e8 e9 e10 e11 e12 d0 d1 d2 d3 d4 d5 d6 d7 d8 d9 d10 d11 d12
      rw [v2, v3]
      go_simp
      exact hK.out _ _ ⟨updV vs 4 (.pointer (some ⟨g, kk, none⟩)), by simp [updV, v2, v3], hM0.still HLD 4 (by decide) hl _ e.symm hdp⟩
     ·
      simp only [List.getElem?_toArray, List.getElem?_cons_zero, List.getElem?_cons_succ, Option.some.injEq] at ho
      subst ho
      have v4 : vs 4 = .pointer (some ⟨g, kk, none⟩) := (hM.held 4 (hpre ⟨4, .data⟩ (by simp) rfl)).trans e4
      have hdp : ∀ e ∈ dep 5, l.getD e false = true := by rw [d5]; exact (dep_cons (hpre ⟨4, .data⟩ (by simp) rfl) dep_nil)
      have e := e5
      clear e0 e1 e2 e3 e4 e5 e6 e7 e8 e9 e10 e11 e12 d0 d1 d2 d3 d4 d5 d6 d7 d8 d9 d10 d11 d12
      have x0 := keepW hM.below cm
      rw [v4]
      go_simp
      exact hK.out _ _ ⟨updV vs 5 (.int .i64 y), by simp [updV, v4], hM0.still HLD 5 (by decide) hl _ e.symm hdp⟩
     ·
      simp only [List.getElem?_toArray, List.getElem?_cons_zero, List.getElem?_cons_succ, Option.some.injEq] at ho
      subst ho
      have hdp : ∀ e ∈ dep 6, l.getD e false = true := by rw [d6]; exact dep_nil
      have e := e6
      clear e0 e1 e2 e3 e4 e5 e6 e7 e8 e9 e10 e11 e12 d0 d1 d2 d3 d4 d5 d6 d7 d8 d9 d10 d11 d12
      have x0 := keepW hM.below z0
      have x1 := keepW hM.below z1
      have x2 := keepW hM.below z2
      have x3 := keepW hM.below z3
      have x4 := keepW hM.below z4
      go_simp
      exact hK.out _ _ ⟨updV vs 6 (.agg #[.slice A t.cols.length c, .int .i64 t.head, .int .i64 t.foot, .slice A' t.rows.length c', .int .i64 t.gap]), rfl, hM0.still HLD 6 (by decide) hl _ e.symm hdp⟩
     ·
      simp only [List.getElem?_toArray, List.getElem?_cons_zero, List.getElem?_cons_succ, Option.some.injEq] at ho
      subst ho
      have hdp : ∀ e ∈ dep 7, l.getD e false = true := by rw [d7]; exact dep_nil
      have e := e7
      clear e0 e1 e2 e3 e4 e5 e6 e7 e8 e9 e10 e11 e12 d0 d1 d2 d3 d4 d5 d6 d7 d8 d9 d10 d11 d12
      go_simp
      exact hK.out _ _ ⟨updV vs 7 (.int .i64 ↑kk), rfl, hM0.still HLD 7 (by decide) hl _ e.symm hdp⟩
     ·
      simp only [List.getElem?_toArray, List.getElem?_cons_zero, List.getElem?_cons_succ, Option.some.injEq] at ho
      subst ho
      have v6 : vs 6 = .agg #[.slice A t.cols.length c, .int .i64 t.head, .int .i64 t.foot, .slice A' t.rows.length c', .int .i64 t.gap] := (hM.held 6 (hpre ⟨6, .data⟩ (by simp) rfl)).trans e6
      have v7 : vs 7 = .int .i64 ↑kk := (hM.held 7 (hpre ⟨7, .data⟩ (by simp) rfl)).trans e7
      have hdp : ∀ e ∈ dep 8, l.getD e false = true := by rw [d8]; exact (dep_cons (hpre ⟨6, .data⟩ (by simp) rfl) (dep_cons (hpre ⟨7, .data⟩ (by simp) rfl) dep_nil))
      have e := e8
      clear e0 e1 e2 e3 e4 e5 e6 e7 e8 e9 e10 e11 e12 d0 d1 d2 d3 d4 d5 d6 d7 d8 d9 d10 d11 d12
      rw [v6, v7]
      go_simp
      refine (HS6.out _ hM.below).mono ?_
      rintro e5 W5 ⟨rfl, hb5⟩
      exact hK.out _ _ ⟨updV vs 8 (.agg #[.int .i64 1, .int .i64 n0]), by simp [updV, v6, v7], hM0.next HLD 8 (by decide) hl _ e.symm hdp hb5⟩
     ·
      simp only [List.getElem?_toArray, List.getElem?_cons_zero, List.getElem?_cons_succ, Option.some.injEq] at ho
      subst ho
      have v8 : vs 8 = .agg #[.int .i64 1, .int .i64 n0] := (hM.held 8 (hpre ⟨8, .data⟩ (by simp) rfl)).trans e8
      have hdp : ∀ e ∈ dep 9, l.getD e false = true := by rw [d9]; exact (dep_cons (hpre ⟨8, .data⟩ (by simp) rfl) dep_nil)
      have e := e9
      clear e0 e1 e2 e3 e4 e5 e6 e7 e8 e9 e10 e11 e12 d0 d1 d2 d3 d4 d5 d6 d7 d8 d9 d10 d11 d12
      have hfc1 := fieldC1
      rw [v8]
      go_simp
      exact hK.out _ _ ⟨updV vs 9 (.int .i64 n0), by simp [updV, v8], hM0.still HLD 9 (by decide) hl _ e.symm hdp⟩
     ·
      simp only [List.getElem?_toArray, List.getElem?_cons_zero, List.getElem?_cons_succ, Option.some.injEq] at ho
      subst ho
      have v5 : vs 5 = .int .i64 y := (hM.held 5 (hpre ⟨5, .data⟩ (by simp) rfl)).trans e5
      have v9 : vs 9 = .int .i64 n0 := (hM.held 9 (hpre ⟨9, .data⟩ (by simp) rfl)).trans e9
      have v8 : vs 8 = .agg #[.int .i64 1, .int .i64 n0] := (hM.held 8 (hpre ⟨8, .chain⟩ (by simp) rfl)).trans e8
      have hdp : ∀ e ∈ dep 10, l.getD e false = true := by rw [d10]; exact (dep_cons (hpre ⟨5, .data⟩ (by simp) rfl) (dep_cons (hpre ⟨9, .data⟩ (by simp) rfl) (dep_cons (hpre ⟨8, .chain⟩ (by simp) rfl) dep_nil)))
      have e := e10
      clear e0 e1 e2 e3 e4 e5 e6 e7 e8 e9 e10 e11 e12 d0 d1 d2 d3 d4 d5 d6 d7 d8 d9 d10 d11 d12
      rw [v5, v9, v8]
      go_simp
      refine (spec_l1Max y n0 _).mono ?_
      rintro e5 W5 ⟨rfl, hq⟩
      exact hK.out _ _ ⟨updV vs 10 (.int .i64 (max y n0)), by simp [updV, v5, v9, v8], hM0.next HLD 10 (by decide) hl _ e.symm hdp (by rw [hq]; exact brefl _)⟩
     ·
      simp only [List.getElem?_toArray, List.getElem?_cons_zero, List.getElem?_cons_succ, Option.some.injEq] at ho
      subst ho
      have v0 : vs 0 = .slice (some ⟨g, 0, none⟩) n cc := (hM.held 0 (hpre ⟨0, .data⟩ (by simp) rfl)).trans e0
      have v1 : vs 1 = .int .i64 ↑kk := (hM.held 1 (hpre ⟨1, .data⟩ (by simp) rfl)).trans e1
      have hdp : ∀ e ∈ dep 11, l.getD e false = true := by rw [d11]; exact (dep_cons (hpre ⟨0, .data⟩ (by simp) rfl) (dep_cons (hpre ⟨1, .data⟩ (by simp) rfl) dep_nil))
      have e := e11
      clear e0 e1 e2 e3 e4 e5 e6 e7 e8 e9 e10 e11 e12 d0 d1 d2 d3 d4 d5 d6 d7 d8 d9 d10 d11 d12
      rw [v0, v1]
      go_simp
      exact hK.out _ _ ⟨updV vs 11 (.pointer (some ⟨g, kk, none⟩)), by simp [updV, v0, v1], hM0.still HLD 11 (by decide) hl _ e.symm hdp⟩
     ·
      simp only [List.getElem?_toArray, List.getElem?_cons_zero, List.getElem?_cons_succ, Option.some.injEq] at ho
      subst ho
      have v11 : vs 11 = .pointer (some ⟨g, kk, none⟩) := (hM.held 11 (hpre ⟨11, .data⟩ (by simp) rfl)).trans e11
      have v10 : vs 10 = .int .i64 (max y n0) := (hM.held 10 (hpre ⟨10, .data⟩ (by simp) rfl)).trans e10
      have hdp : ∀ e ∈ dep 12, l.getD e false = true := by rw [d12]; exact (dep_cons (hpre ⟨11, .data⟩ (by simp) rfl) (dep_cons (hpre ⟨10, .data⟩ (by simp) rfl) dep_nil))
      have e := e12
      clear e0 e1 e2 e3 e4 e5 e6 e7 e8 e9 e10 e11 e12 d0 d1 d2 d3 d4 d5 d6 d7 d8 d9 d10 d11 d12
      have fm := HFZ.out _ hM.below
      have cw := keepW hM.below cm
      rw [v11, v10]
      go_simp
      exact hK.out _ _ ⟨updV vs 12 (undef), by simp [updV, v11, v10], hM0.last HLD 12 rfl hl _ e.symm hdp⟩
    case fin =>
     rintro l a W6 hall ⟨vs6, rfl, hM0⟩
     obtain ⟨W61, hM, rfl⟩ := hM0.fin (by decide) hall
     have HBW := hide hM.below
     clear e0 e1 e2 e3 e4 e5 e6 e7 e8 e9 e10 e11 e12 d0 d1 d2 d3 d4 d5 d6 d7 d8 d9 d10 d11 d12 HLD
     go_wp2_with fail
     go_roundg (n - (kk + 1))
     case measure => omega
     case rel =>
      refine ⟨kk + 1, by omega, by omega, by go_num, (show Aside _ from bset (step HBD.out HBW.out) (by show w.heap.size ≤ g; omega) _), (show Aside _ from HSS.out _ HBW.out), (show Aside _ from ?_)⟩
      have k0 := keepW HBW.out z0
      have k1 := keepW HBW.out z1
      have k2 := keepW HBW.out z2
      have k3 := keepW HBW.out z3
      have k4 := keepW HBW.out z4
      have hne : g ≠ w.heap.size := by omega
      refine ⟨?_, ?_, ?_, ?_, ?_⟩ <;> rw [World.cell?_setCell_far _ _ _ _ hne] <;> assumption
   ·
    have h1z : (k0 == 1) = false := by simp [h1]
    have HK := hide (fillM_skip (saidN t) kk X (by rw [HST.out, if_neg h1]))
    clear h1 hS5
    go_wp2_with fail
    go_roundg (n - (kk + 1))
    case measure => omega
    case rel => exact ⟨kk + 1, by omega, by omega, by go_num, HB5.out, (show Aside _ from by rw [HK.out]; exact HM5.out), (show Aside _ from ⟨by simp [c5, y0], by simp [c5, y1], by simp [c5, y2], by simp [c5, y3], by simp [c5, y4]⟩)⟩
  ·
   have hltz : ¬ (kk : Int) < (n : Int) := by omega
   have HK := hide (show fillM (saidN t) kk X = leastL t cells n by
    rw [show kk = X.length by rw [HL.out]; omega, fillM_full]; unfold leastL; rw [HX.out])
   go_wp2_with fail
   go_ret
   exact ⟨_, rfl, by rw [← HK.out]; exact HM.out, HB.out⟩
end Go.Proofs.YtpfagdmmhgcmnaaGreatDoor

namespace Go.Proofs.YtpfagdmmhgcmnaaGreatDoor
open Go.RowKit
structure PMid (K : Nat → Value → World → Prop) (n m : Nat) (dep : Nat → List Nat) (V : World) (R : World → Value → World → Prop) (st : Nat → Value) (l : Array Bool) (vs : Nat → Value) (W : World) : Prop where
 size : l.size = n
 closed : ∀ j, l.getD j false = true → ∀ e ∈ dep j, l.getD e false = true
 opened : l.getD m false = false → Below V.heap.size V W ∧ ∀ j, j < m → l.getD j false = true → K j (vs j) W
 done : l.getD m false = true → ∃ W1, Below V.heap.size V W1 ∧ (∀ j, j < m → l.getD j false = true → K j (vs j) W1) ∧ R W1 (vs m) W
 after : ∀ j, m < j → l.getD j false = true → vs j = vs m
 stale : l.getD m false = false → ∀ j, m < j → vs j = st j
def LastP (n m : Nat) (dep : Nat → List Nat) : Prop := ∀ L : Nat → Prop, (∀ j, L j → ∀ e ∈ dep j, L e) → m < n → L m → ∀ j, j < m → L j
def StableP (K : Nat → Value → World → Prop) : Prop := ∀ j v W W', K j v W → Below W.heap.size W W' → K j v W'
section
variable {K : Nat → Value → World → Prop} {n m : Nat} {dep : Nat → List Nat} {V : World} {R : World → Value → World → Prop} {st : Nat → Value} {l : Array Bool} {vs : Nat → Value} {W W' : World}
theorem getD_over {l : Array Bool} {j : Nat} (h : l.getD j false = true) : j < l.size := by
 refine Nat.lt_of_not_le fun h9 => ?_
 simp [Array.getD, Nat.not_lt.2 h9] at h
theorem PMid.start : PMid K n m dep V R st (Array.replicate n false) st V :=
 ⟨by simp, fun j hj => by simp [Array.getD] at hj, fun _ => ⟨brefl V, fun j _ hj => by simp [Array.getD] at hj⟩, fun h => by simp [Array.getD] at h, fun j _ hj => by simp [Array.getD] at hj, fun _ _ _ => rfl⟩
theorem PMid.isopen (h : PMid K n m dep V R st l vs W) (hL : LastP n m dep) {i : Nat} (hi : i < n) (him : i ≤ m) (hl : l.getD i true = false) : l.getD m false = false := by
 cases h9 : l.getD m false with
 | false => rfl
 | true =>
  have hm : m < n := by have := getD_over h9; rw [h.size] at this; exact this
  rcases Nat.lt_or_eq_of_le him with hlt | rfl
  ·
   have := hL (fun j => l.getD j false = true) h.closed hm h9 i hlt
   rw [getD_any (by rw [h.size]; exact hi) false true, hl] at this
   cases this
  ·
   rw [getD_any (by rw [h.size]; exact hi) false true, hl] at h9; cases h9
theorem PMid.get (h : PMid K n m dep V R st l vs W) (hL : LastP n m dep) {i : Nat} (hi : i < n) (him : i ≤ m) (hl : l.getD i true = false) (j : Nat) (hjm : j < m) (hj : l.getD j false = true) : K j (vs j) W := (h.opened (h.isopen hL hi him hl)).2 j hjm hj
theorem PMid.below (h : PMid K n m dep V R st l vs W) (hL : LastP n m dep) {i : Nat} (hi : i < n) (him : i ≤ m) (hl : l.getD i true = false) : Below V.heap.size V W := (h.opened (h.isopen hL hi him hl)).1
theorem PMid.closed_set (h : PMid K n m dep V R st l vs W) (i : Nat) (hd : ∀ e ∈ dep i, l.getD e false = true) (hi : i < n) :
  ∀ j, (l.setIfInBounds i true).getD j false = true → ∀ e ∈ dep j, (l.setIfInBounds i true).getD e false = true := by
 intro j hj e he
 have hup : l.getD e false = true → (l.setIfInBounds i true).getD e false = true := fun h0 => by
  by_cases e1 : e = i
  ·
   subst e1; simp [Array.getD, h.size, hi]
  ·
   rw [getD_set_ne false (Ne.symm e1)]; exact h0
 by_cases e2 : j = i
 ·
  subst e2; exact hup (hd e he)
 ·
  rw [getD_set_ne false (Ne.symm e2)] at hj
  exact hup (h.closed j hj e he)
theorem PMid.next (h : PMid K n m dep V R st l vs W) (hL : LastP n m dep) (hS : StableP K) (i : Nat) (hi : i < n) (him : i < m) (hl : l.getD i true = false) (v : Value) (hd : ∀ e ∈ dep i, l.getD e false = true) (hb : Below W.heap.size W W') (hk : K i v W') :
  PMid K n m dep V R st (l.setIfInBounds i true) (updV vs i v) W' := by
 have ho := h.isopen hL hi (Nat.le_of_lt him) hl
 obtain ⟨hB, hK⟩ := h.opened ho
 refine ⟨by simpa using h.size, h.closed_set i hd hi, fun _ => ⟨step hB hb, fun j hjm hj => ?_⟩, fun h9 => ?_, fun j hjm hj => ?_, fun h9 j hjm => ?_⟩
 ·
  unfold updV
  by_cases e : j = i
  ·
   subst e; rw [if_pos rfl]; exact hk
  ·
   rw [if_neg e]
   rw [getD_set_ne false (Ne.symm e)] at hj
   exact hS j _ _ _ (hK j hjm hj) hb
 ·
  rw [getD_set_ne false (by omega), ho] at h9; cases h9
 ·
  unfold updV
  rw [if_neg (by omega), if_neg (by omega)]
  rw [getD_set_ne false (by omega)] at hj
  exact h.after j hjm hj
 ·
  unfold updV
  rw [if_neg (by omega)]
  exact h.stale ho j hjm
theorem PMid.getStale (h : PMid K n m dep V R st l vs W) (hL : LastP n m dep) {i : Nat} (hi : i < n) (him : i ≤ m) (hl : l.getD i true = false) (j : Nat) (hj : m < j) : vs j = st j := h.stale (h.isopen hL hi him hl) j hj
theorem PMid.still (h : PMid K n m dep V R st l vs W) (hL : LastP n m dep) (hS : StableP K) (i : Nat) (hi : i < n) (him : i < m) (hl : l.getD i true = false) (v : Value) (hd : ∀ e ∈ dep i, l.getD e false = true) (hk : K i v W) :
  PMid K n m dep V R st (l.setIfInBounds i true) (updV vs i v) W := h.next hL hS i hi him hl v hd (brefl W) hk
theorem PMid.last (h : PMid K n m dep V R st l vs W) (hL : LastP n m dep) (hm : m < n) (hl : l.getD m true = false) (hno : ∀ j, m < j → l.getD j false = true → m ∈ dep j) (v : Value) (hd : ∀ e ∈ dep m, l.getD e false = true) (hR : R W v W') :
  PMid K n m dep V R st (l.setIfInBounds m true) (updV vs m v) W' := by
 have ho := h.isopen hL hm (Nat.le_refl m) hl
 obtain ⟨hB, hK⟩ := h.opened ho
 have hin : (l.setIfInBounds m true).getD m false = true := by simp [Array.getD, h.size, hm]
 refine ⟨by simpa using h.size, h.closed_set m hd hm, fun h9 => (by rw [hin] at h9; cases h9), fun _ => ⟨W, hB, fun j hj hj2 => ?_, ?_⟩, fun j hjm hj => ?_, fun h9 => (by rw [hin] at h9; cases h9)⟩
 ·
  unfold updV
  rw [if_neg (by omega)]
  rw [getD_set_ne false (by omega)] at hj2
  exact hK j hj hj2
 ·
  unfold updV
  rw [if_pos rfl]; exact hR
 ·
  rw [getD_set_ne false (by omega)] at hj
  have := h.closed j hj m (hno j hjm hj)
  rw [ho] at this; cases this
theorem PMid.post (h : PMid K n m dep V R st l vs W) (i : Nat) (hi : i < n) (him : m < i) (hlm : l.getD m false = true) (hd : ∀ e ∈ dep i, l.getD e false = true) :
  PMid K n m dep V R st (l.setIfInBounds i true) (updV vs i (vs m)) W := by
 refine ⟨by simpa using h.size, h.closed_set i hd hi, fun h9 => ?_, fun _ => ?_, fun j hjm hj => ?_, fun h9 => (by rw [getD_set_ne false (by omega), hlm] at h9; cases h9)⟩
 ·
  rw [getD_set_ne false (by omega), hlm] at h9; cases h9
 ·
  obtain ⟨W1, h1, h2, h3⟩ := h.done hlm
  refine ⟨W1, h1, fun j hj hj2 => ?_, ?_⟩
  ·
   unfold updV
   rw [if_neg (by omega)]
   rw [getD_set_ne false (by omega)] at hj2
   exact h2 j hj hj2
  ·
   unfold updV
   rw [if_neg (by omega)]; exact h3
 ·
  unfold updV
  rw [if_neg (show m ≠ i by omega)]
  by_cases e : j = i
  ·
   rw [if_pos e]
  ·
   rw [if_neg e]
   rw [getD_set_ne false (Ne.symm e)] at hj
   exact h.after j hjm hj
theorem PMid.fin (h : PMid K n m dep V R st l vs W) (hm : m < n) (hall : ∀ j, j < n → l.getD j true = true) : ∃ W1, Below V.heap.size V W1 ∧ (∀ j, j < m → K j (vs j) W1) ∧ R W1 (vs m) W ∧ ∀ j, m < j → j < n → vs j = vs m := by
 have h9 := hall m hm
 rw [getD_any (by rw [h.size]; exact hm) true false] at h9
 obtain ⟨W1, h1, h2, h3⟩ := h.done h9
 have hall2 : ∀ j, j < n → l.getD j false = true := fun j hj => by rw [getD_any (by rw [h.size]; exact hj) false true]; exact hall j hj
 exact ⟨W1, h1, fun j hj => h2 j hj (hall2 j (by omega)), h3, fun j hj hjn => h.after j hj (hall2 j hjn)⟩
end
end Go.Proofs.YtpfagdmmhgcmnaaGreatDoor
