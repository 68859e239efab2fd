import Derived.Test.YtpfagdmmhgcmnaaGreatDoorMixTq
import Derived.Test.YtpfagdmmhgcmnaaGreatDoorMixG1
set_option linter.unusedVariables false
set_option linter.unusedSimpArgs false
namespace Go.Proofs.YtpfagdmmhgcmnaaGreatDoor
open Go.RowKit
set_option linter.unusedSimpArgs false in
set_option maxRecDepth 100000 in
set_option maxHeartbeats 40000000 in
theorem spec_l5Wish (t : Tbl) (A : Option Addr) (c : Nat) (A' : Option Addr) (c' : Nat) (gr : Int) (n : Nat) (cells : List GCell) (GA : Option Addr) (gc : Nat) (w : World) (hc : Rd colR w A t.cols) (hr : Rd rowR w A' t.rows) (hG : Rd gcR w GA cells)
  (hg : 0 ≤ t.gap ∧ t.gap ≤ 3) (hn : 1 ≤ n ∧ n ≤ 1000) (hcell : ∀ x ∈ cells, CellIn n (fun c => leastT (textOf t c)) x ∧ CellAt t x ∧ 0 ≤ leastT (textOf t x))
  (hcell2 : ∀ x ∈ cells, CellIn n (fun c => wishT (textOf t c)) x ∧ CellAt t x ∧ 0 ≤ wishT (textOf t x)) (hcl : cells.length ≤ 1000) :
  Calls Tryz.prog 70 #[.agg #[.slice A t.cols.length c, .int .i64 t.head, .int .i64 t.foot, .slice A' t.rows.length c', .int .i64 t.gap], .agg #[.int .i64 gr, .int .i64 n, .slice GA cells.length gc]] w fun e w' => ∃ v, e = .returned v ∧ IOwn w' w.heap.size v (wishL t cells n) ∧ Below w.heap.size w w' := by
 have hZ := fun (W : World) => spec_l5Zero gr n cells GA gc W (by omega)
 have hM := fun (W : World) (h : Below w.heap.size w W) (FA : Option Addr) (fc : Nat) hf => spec_l5Need t A c A' c' gr n cells GA gc false FA fc W (hr.below h) (hG.below h) hf hg hn (by simpa using hcell2) hcl
 have hE := fun (W : World) (h : Below w.heap.size w W) => spec_l5Least t A c A' c' gr n cells GA gc W (hc.below h) (hr.below h) (hG.below h) hg hn hcell hcl
 have hlen : (made t.gap (fun c => wishT (textOf t c)) cells n).length = n := (made_spec hg.1 (fun x hx => (hcell2 x hx).1)).1.1
 have hlen2 : (leastL t cells n).length = n := by
  unfold leastL; rw [List.length_mapIdx]; exact (made_spec hg.1 (fun x hx => (hcell x hx).1)).1.1
 have hw2 : wishL t cells n = (made t.gap (fun c => wishT (textOf t c)) cells n).mapIdx (overL (leastL t cells n)) := rfl
 simp only [Bool.false_eq_true, if_false] at hM
 generalize hX : made t.gap (fun c => wishT (textOf t c)) cells n = X at hM hlen hw2
 generalize hY : leastL t cells n = Y at hE hlen2 hw2
 have HL := hide hlen
 have HL2 := hide hlen2
 have HR := hide hw2
 clear hc hr hG hcell hcell2 hX hY hlen hlen2 hw2
 go_enter Tryz.func70, Tryz.ntmps70
 have HB := hide (balloc (balloc (brefl w) (.cells #[.slice A t.cols.length c, .int .i64 t.head, .int .i64 t.foot, .slice A' t.rows.length c', .int .i64 t.gap] 26)) (.cells #[.int .i64 gr, .int .i64 n, .slice GA cells.length gc] 35))
 go_upto_region 1 with fail
 go_cut [5] from 5 to 13 (fun s5 wx => ∃ g cc, s5 = .slice (some ⟨g, 0, none⟩) n cc ∧ w.heap.size + 2 ≤ g ∧ Aside (Below w.heap.size w wx) ∧ Aside (IOwn wx w.heap.size (.slice (some ⟨g, 0, none⟩) n cc) X) ∧ wx.cell? ⟨w.heap.size, 0, none⟩ = some (.slice A t.cols.length c) ∧ wx.cell? ⟨w.heap.size, 1, none⟩ = some (.int .i64 t.head) ∧ wx.cell? ⟨w.heap.size, 2, none⟩ = some (.int .i64 t.foot) ∧ wx.cell? ⟨w.heap.size, 3, none⟩ = some (.slice A' t.rows.length c') ∧ wx.cell? ⟨w.heap.size, 4, none⟩ = some (.int .i64 t.gap) ∧ wx.cell? ⟨w.heap.size + 1, 0, none⟩ = some (.int .i64 gr) ∧ wx.cell? ⟨w.heap.size + 1, 1, none⟩ = some (.int .i64 n) ∧ wx.cell? ⟨w.heap.size + 1, 2, none⟩ = some (.slice GA cells.length gc))
 case first =>
  go_region_with (first
   | (go_at_call 103; refine (hZ _).mono ?_; rintro e w2 ⟨v, rfl, hI, hb2⟩; obtain ⟨c2, f2, s2⟩ := seenBk w.heap.size (by first | (simp; omega) | simp [*]) hb2; obtain ⟨c3, f3, s3⟩ := seenBk (w.heap.size + 1) (by first | (simp; omega) | simp [*]) hb2; obtain ⟨A2, d2, rfl⟩ := hI.form; have hrd := irow_rd hI; rw [List.length_replicate])
   | (go_at_call 102; refine (hM _ ?_ A2 d2 ?_).mono ?_; (first | exact step HB.out hb2 | exact step (bdrew HB.out) hb2 | exact bdrew (step HB.out hb2) | exact bdrew (step (bdrew HB.out) hb2)); (first | exact hrd | exact hrd.below (bdrew (brefl _))); rintro e w3 ⟨v, rfl, hI3, hb3⟩; obtain ⟨c4, f4, s4⟩ := seenBk w.heap.size (by first | (simp; omega) | simp [*]) hb3; obtain ⟨c5, f5, s5⟩ := seenBk (w.heap.size + 1) (by first | (simp; omega) | simp [*]) hb3; obtain ⟨g, cc, rfl, hg1, hg2, _, _⟩ := hI3.at (by rw [HL.out]; exact hn.1); rw [HL.out]; rw [HL.out] at hI3))
  all_goals
   have hsz : w.heap.size ≤ w2.heap.size := Nat.le_trans HB.out.size hb2.size
   have hsz2 : w.heap.size + 2 ≤ w2.heap.size := by have h0 := hb2.size; simp at h0; omega
   have y0 : w3.cell? ⟨w.heap.size, 0, none⟩ = some (.slice A t.cols.length c) := by simp [c4, c2]
   have y1 : w3.cell? ⟨w.heap.size, 1, none⟩ = some (.int .i64 t.head) := by simp [c4, c2]
   have y2 : w3.cell? ⟨w.heap.size, 2, none⟩ = some (.int .i64 t.foot) := by simp [c4, c2]
   have y3 : w3.cell? ⟨w.heap.size, 3, none⟩ = some (.slice A' t.rows.length c') := by simp [c4, c2]
   have y4 : w3.cell? ⟨w.heap.size, 4, none⟩ = some (.int .i64 t.gap) := by simp [c4, c2]
   have y5 : w3.cell? ⟨w.heap.size + 1, 0, none⟩ = some (.int .i64 gr) := by simp [c5, c3]
   have y6 : w3.cell? ⟨w.heap.size + 1, 1, none⟩ = some (.int .i64 n) := by simp [c5, c3]
   have y7 : w3.cell? ⟨w.heap.size + 1, 2, none⟩ = some (.slice GA cells.length gc) := by simp [c5, c3]
   go_wp2_with fail
   go_meet
   case rel =>
    refine ⟨g, cc, rfl, Nat.le_trans hsz2 hg1, (show Aside _ from ?_), (show Aside _ from ?_), y0, y1, y2, y3, y4, y5, y6, y7⟩
    ·
     show Below _ _ _
     (repeat' (with_reducible first | exact HB.out | refine bdrew ?_ | refine step ?_ (by with_reducible assumption)))
    ·
     first
      | exact hI3.base hsz
      | exact (hI3.base hsz).below (bdrew (brefl _))
 case rest =>
 obtain ⟨g, cc, rfl, hgw, HB2, HI, y0, y1, y2, y3, y4, y5, y6, y7⟩ := hcut
 go_wp2_with fail
 refine (hE _ HB2.out).mono ?_
 rintro e w3 ⟨v, rfl, hO3, hb3⟩
 have HB3 := hide (step HB2.out hb3)
 have HX3 := hide (HI.out.below hb3)
 have hgl0 : g < wc.heap.size := by
  obtain ⟨g', c2, e, _, h2, _⟩ := HI.out.at (by rw [HL.out]; omega)
  injection e with e; injection e with e; injection e with e; omega
 obtain ⟨g3, c3, rfl, hg3, hg4, _, _⟩ := hO3.at (by rw [HL2.out]; exact hn.1)
 have hne : g ≠ g3 := by omega
 rw [HL2.out]
 rw [HL2.out] at hO3
 have HO3 := hide hO3
 clear hO3 hb3 y0 y1 y2 y3 y4 y5 y6 y7 hE
 go_wp2_with fail
 go_loopg [7] n (fun gg s7 wr => ∃ kk : Nat, kk ≤ n ∧ n - kk ≤ gg ∧ s7 = .int .i64 kk ∧ Aside (Below w.heap.size w wr) ∧ Aside (IOwn wr wc.heap.size (.slice (some ⟨g3, 0, none⟩) n c3) Y) ∧ Aside (IOwn wr w.heap.size (.slice (some ⟨g, 0, none⟩) n cc) (fillM (overL Y) kk X)))
 case atStart => exact ⟨0, Nat.zero_le _, by omega, rfl, HB3.out, HO3.out, (show Aside _ from by rw [fillM_zero]; exact HX3.out)⟩
 case round =>
  obtain ⟨kk, hkk, hgg, rfl, HB, HY, HM⟩ := hrel
  by_cases hlt : kk < n
  ·
   have hltz : (kk : Int) < (n : Int) := by omega
   go_wp2_with fail
   obtain ⟨y, hy⟩ : ∃ y, X.getD kk 0 = y := ⟨_, rfl⟩
   obtain ⟨z, hz⟩ : ∃ z, Y.getD kk 0 = z := ⟨_, rfl⟩
   have HMD : Hid (IOwn wr.drew w.heap.size (.slice (some ⟨g, 0, none⟩) n cc) (fillM (overL Y) kk X)) := HM.out.below (bdrew (brefl _))
   have HYD : Hid (IOwn wr.drew wc.heap.size (.slice (some ⟨g3, 0, none⟩) n c3) Y) := HY.out.below (bdrew (brefl _))
   have HBD := hide (bdrew HB.out)
   have hml : kk < (fillM (overL Y) kk X).length := by rw [fillM_length, HL.out]; omega
   have cm := HMD.out.cell (j := kk) hml
   have cy := HYD.out.cell (j := kk) (by rw [HL2.out]; omega)
   rw [fillM_at, hy] at cm
   rw [hz] at cy
   have HFZ : Hid (∀ W, Below wr.drew.heap.size wr.drew W → W.frozen? ⟨g, kk, none⟩ = false) := fun W h => (HMD.out.below h).frozen kk
   have HSS : Hid (∀ W, Below wr.drew.heap.size wr.drew W → IOwn (W.setCell ⟨g, kk, none⟩ (.int .i64 (max y z))) w.heap.size (.slice (some ⟨g, 0, none⟩) n cc) (fillM (overL Y) (kk + 1) X) ∧ IOwn (W.setCell ⟨g, kk, none⟩ (.int .i64 (max y z))) wc.heap.size (.slice (some ⟨g3, 0, none⟩) n c3) Y) := fun W h => by
    have h1 := (HMD.out.below h).store kk (overL Y kk (X.getD kk 0))
    have h2 : overL Y kk (X.getD kk 0) = max y z := by unfold overL; rw [hy, hz]
    rw [fillM_set _ _ _ (by rw [HL.out]; omega), h2] at h1
    exact ⟨h1, (HYD.out.below h).other (a := ⟨g, kk, none⟩) hne (.int .i64 (max y z))⟩
   clear hml hy hz HM HY
   obtain ⟨vals, hvals⟩ : ∃ f : Nat → Value, f = (fun j => match j with | 0 => .slice (some ⟨g, 0, none⟩) n cc | 1 => .int .i64 ↑kk | 2 => .slice (some ⟨g, 0, none⟩) n cc | 3 => .int .i64 ↑kk | 4 => .pointer (some ⟨g, kk, none⟩) | 5 => .int .i64 y | 6 => .slice (some ⟨g3, 0, none⟩) n c3 | 7 => .int .i64 ↑kk | 8 => .pointer (some ⟨g3, kk, none⟩) | 9 => .int .i64 z | 10 => .int .i64 (max y z) | 11 => .pointer (some ⟨g, kk, none⟩) | 12 => undef | _ => undef) := ⟨_, rfl⟩
   have e0 : vals 0 = .slice (some ⟨g, 0, none⟩) n cc := congrFun hvals 0
   have e1 : vals 1 = .int .i64 ↑kk := congrFun hvals 1
   have e2 : vals 2 = .slice (some ⟨g, 0, none⟩) n cc := congrFun hvals 2
   have e3 : vals 3 = .int .i64 ↑kk := congrFun hvals 3
   have e4 : vals 4 = .pointer (some ⟨g, kk, none⟩) := congrFun hvals 4
   have e5 : vals 5 = .int .i64 y := congrFun hvals 5
   have e6 : vals 6 = .slice (some ⟨g3, 0, none⟩) n c3 := congrFun hvals 6
   have e7 : vals 7 = .int .i64 ↑kk := congrFun hvals 7
   have e8 : vals 8 = .pointer (some ⟨g3, kk, none⟩) := congrFun hvals 8
   have e9 : vals 9 = .int .i64 z := congrFun hvals 9
   have e10 : vals 10 = .int .i64 (max y z) := congrFun hvals 10
   have e11 : vals 11 = .pointer (some ⟨g, kk, none⟩) := congrFun hvals 11
   have e12 : vals 12 = undef := congrFun hvals 12
   clear hvals
   obtain ⟨dep, hdep⟩ : ∃ f : Nat → List Nat, f = (fun j => match j with | 4 => [2, 3] | 5 => [4] | 8 => [6, 7] | 9 => [8] | 10 => [5, 9] | 11 => [0, 1] | 12 => [11, 10] | _ => []) := ⟨_, rfl⟩
   have d0 : dep 0 = [] := congrFun hdep 0
   have d1 : dep 1 = [] := congrFun hdep 1
   have d2 : dep 2 = [] := congrFun hdep 2
   have d3 : dep 3 = [] := congrFun hdep 3
   have d4 : dep 4 = [2, 3] := congrFun hdep 4
   have d5 : dep 5 = [4] := congrFun hdep 5
   have d6 : dep 6 = [] := congrFun hdep 6
   have d7 : dep 7 = [] := congrFun hdep 7
   have d8 : dep 8 = [6, 7] := congrFun hdep 8
   have d9 : dep 9 = [8] := congrFun hdep 9
   have d10 : dep 10 = [5, 9] := congrFun hdep 10
   have d11 : dep 11 = [0, 1] := congrFun hdep 11
   have d12 : dep 12 = [11, 10] := congrFun hdep 12
   clear hdep
   have HLD : LastD 13 dep := by
    intro L hc k12
    have k11 : L 11 := hc 12 k12 11 (by rw [d12]; simp)
    have k10 : L 10 := hc 12 k12 10 (by rw [d12]; simp)
    have k9 : L 9 := hc 10 k10 9 (by rw [d10]; simp)
    have k8 : L 8 := hc 9 k9 8 (by rw [d9]; simp)
    have k7 : L 7 := hc 8 k8 7 (by rw [d8]; simp)
    have k6 : L 6 := hc 8 k8 6 (by rw [d8]; simp)
    have k5 : L 5 := hc 10 k10 5 (by rw [d10]; simp)
    have k4 : L 4 := hc 5 k5 4 (by rw [d5]; simp)
    have k3 : L 3 := hc 4 k4 3 (by rw [d4]; simp)
    have k2 : L 2 := hc 4 k4 2 (by rw [d4]; simp)
    have k1 : L 1 := hc 11 k11 1 (by rw [d11]; simp)
    have k0 : L 0 := hc 11 k11 0 (by rw [d11]; simp)
    intro j hj
    obtain rfl | rfl | rfl | rfl | rfl | rfl | rfl | rfl | rfl | rfl | rfl | rfl | rfl : j = 0 ∨ j = 1 ∨ j = 2 ∨ j = 3 ∨ j = 4 ∨ j = 5 ∨ j = 6 ∨ j = 7 ∨ j = 8 ∨ j = 9 ∨ j = 10 ∨ j = 11 ∨ j = 12 := by omega
    all_goals assumption
   refine wp_region_inv (fun l a W => ∃ vs : Nat → Value, a = ⟨List.toArray (.agg #[.slice A t.cols.length c, .int .i64 t.head, .int .i64 t.foot, .slice A' t.rows.length c', .int .i64 t.gap] :: .agg #[.int .i64 gr, .int .i64 ↑n, .slice GA cells.length gc] :: .pointer (some ⟨w.heap.size, 0, none⟩) :: .pointer (some ⟨w.heap.size + 1, 0, none⟩) :: .slice none 0 0 :: .slice (some ⟨g, 0, none⟩) n cc :: .slice (some ⟨g3, 0, none⟩) n c3 :: .int .i64 ↑kk :: u8 :: u9 :: u10 :: u11 :: u12 :: .agg #[.slice A t.cols.length c, .int .i64 t.head, .int .i64 t.foot, .slice A' t.rows.length c', .int .i64 t.gap] :: .agg #[.int .i64 gr, .int .i64 ↑n, .slice GA cells.length gc] :: .slice (some ⟨g3, 0, none⟩) n c3 :: .int .i64 ↑kk :: .slice (some ⟨g, 0, none⟩) n cc :: .int .i64 ↑n :: .bool true :: u20 :: u21 :: vs 0 :: vs 1 :: vs 2 :: vs 3 :: vs 4 :: vs 5 :: vs 6 :: vs 7 :: vs 8 :: vs 9 :: vs 10 :: vs 11 :: undef :: []), []⟩ ∧ BMidS vals 13 dep (wr.drew) ⟨g, kk, none⟩ (.int .i64 (max y z)) l vs W) (by kernel_rfl) ?top ?start ?step ?fin
   case top =>
    clear e0 e1 e2 e3 e4 e5 e6 e7 e8 e9 e10 e11 e12 d0 d1 d2 d3 d4 d5 d6 d7 d8 d9 d10 d11 d12
    intro j o ho e he
    have hj : j < 13 := (Array.getElem?_eq_some_iff.1 ho).1
    have hA : (o.after.all fun e => decide (e.on < j)) = true := by
     obtain rfl | rfl | rfl | rfl | rfl | rfl | rfl | rfl | rfl | rfl | rfl | rfl | rfl : j = 0 ∨ j = 1 ∨ j = 2 ∨ j = 3 ∨ j = 4 ∨ j = 5 ∨ j = 6 ∨ j = 7 ∨ j = 8 ∨ j = 9 ∨ j = 10 ∨ j = 11 ∨ j = 12 := by omega
     all_goals
      simp only [List.getElem?_toArray, List.getElem?_cons_zero, List.getElem?_cons_succ, Option.some.injEq] at ho
      subst ho
      first | decide | kernel_rfl | simp
    simpa using Array.all_eq_true'.1 hA e he
   case start => exact ⟨(fun j => match j with | 0 => u22 | 1 => u23 | 2 => u24 | 3 => u25 | 4 => u26 | 5 => u27 | 6 => u28 | 7 => u29 | 8 => u30 | 9 => u31 | 10 => u32 | 11 => u33 | _ => undef), rfl, BMidS.start (by decide)⟩
   case step =>
    rintro l a W i o ho hl hpre hsz ⟨vs, rfl, hM0⟩ K hK
    have hi : i < 13 := (Array.getElem?_eq_some_iff.1 ho).1
    have hM := hM0.open HLD hi hl
    obtain rfl | rfl | rfl | rfl | rfl | rfl | rfl | rfl | rfl | rfl | rfl | rfl | rfl : i = 0 ∨ i = 1 ∨ i = 2 ∨ i = 3 ∨ i = 4 ∨ i = 5 ∨ i = 6 ∨ i = 7 ∨ i = 8 ∨ i = 9 ∨ i = 10 ∨ i = 11 ∨ i = 12 := by omega
    ·
     simp only [List.getElem?_toArray, List.getElem?_cons_zero, List.getElem?_cons_succ, Option.some.injEq] at ho
     subst ho
     have hdp : ∀ e ∈ dep 0, l.getD e false = true := by rw [d0]; exact dep_nil
     have e := e0
     clear e0 e1 e2 e3 e4 e5 e6 e7 e8 e9 e10 e11 e12 d0 d1 d2 d3 d4 d5 d6 d7 d8 d9 d10 d11 d12
     go_simp
     exact hK.out _ _ ⟨updV vs 0 (.slice (some ⟨g, 0, none⟩) n cc), rfl, hM0.still HLD 0 (by decide) hl _ e.symm hdp⟩
    ·
     simp only [List.getElem?_toArray, List.getElem?_cons_zero, List.getElem?_cons_succ, Option.some.injEq] at ho
     subst ho
     have hdp : ∀ e ∈ dep 1, l.getD e false = true := by rw [d1]; exact dep_nil
     have e := e1
     clear e0 e1 e2 e3 e4 e5 e6 e7 e8 e9 e10 e11 e12 d0 d1 d2 d3 d4 d5 d6 d7 d8 d9 d10 d11 d12
     go_simp
     exact hK.out _ _ ⟨updV vs 1 (.int .i64 ↑kk), rfl, hM0.still HLD 1 (by decide) hl _ e.symm hdp⟩
    ·
     simp only [List.getElem?_toArray, List.getElem?_cons_zero, List.getElem?_cons_succ, Option.some.injEq] at ho
     subst ho
     have hdp : ∀ e ∈ dep 2, l.getD e false = true := by rw [d2]; exact dep_nil
     have e := e2
     clear e0 e1 e2 e3 e4 e5 e6 e7 e8 e9 e10 e11 e12 d0 d1 d2 d3 d4 d5 d6 d7 d8 d9 d10 d11 d12
     go_simp
     exact hK.out _ _ ⟨updV vs 2 (.slice (some ⟨g, 0, none⟩) n cc), rfl, hM0.still HLD 2 (by decide) hl _ e.symm hdp⟩
    ·
     simp only [List.getElem?_toArray, List.getElem?_cons_zero, List.getElem?_cons_succ, Option.some.injEq] at ho
     subst ho
     have hdp : ∀ e ∈ dep 3, l.getD e false = true := by rw [d3]; exact dep_nil
     have e := e3
     clear e0 e1 e2 e3 e4 e5 e6 e7 e8 e9 e10 e11 e12 d0 d1 d2 d3 d4 d5 d6 d7 d8 d9 d10 d11 d12
     go_simp
     exact hK.out _ _ ⟨updV vs 3 (.int .i64 ↑kk), rfl, hM0.still HLD 3 (by decide) hl _ e.symm hdp⟩
    ·
     simp only [List.getElem?_toArray, List.getElem?_cons_zero, List.getElem?_cons_succ, Option.some.injEq] at ho
     subst ho
     have v2 : vs 2 = .slice (some ⟨g, 0, none⟩) n cc := (hM.held 2 (hpre ⟨2, .data⟩ (by simp) rfl)).trans e2
     have v3 : vs 3 = .int .i64 ↑kk := (hM.held 3 (hpre ⟨3, .data⟩ (by simp) rfl)).trans e3
     have hdp : ∀ e ∈ dep 4, l.getD e false = true := by rw [d4]; exact (dep_cons (hpre ⟨2, .data⟩ (by simp) rfl) (dep_cons (hpre ⟨3, .data⟩ (by simp) rfl) dep_nil))
     have e := e4
     clear e0 e1 e2 e3 e4 e5 e6 e7 e8 e9 e10 e11 e12 d0 d1 d2 d3 d4 d5 d6 d7 d8 d9 d10 d11 d12
     rw [v2, v3]
     go_simp
     exact hK.out _ _ ⟨updV vs 4 (.pointer (some ⟨g, kk, none⟩)), by simp [updV, v2, v3], hM0.still HLD 4 (by decide) hl _ e.symm hdp⟩
    ·
     simp only [List.getElem?_toArray, List.getElem?_cons_zero, List.getElem?_cons_succ, Option.some.injEq] at ho
     subst ho
     have v4 : vs 4 = .pointer (some ⟨g, kk, none⟩) := (hM.held 4 (hpre ⟨4, .data⟩ (by simp) rfl)).trans e4
     have hdp : ∀ e ∈ dep 5, l.getD e false = true := by rw [d5]; exact (dep_cons (hpre ⟨4, .data⟩ (by simp) rfl) dep_nil)
     have e := e5
     clear e0 e1 e2 e3 e4 e5 e6 e7 e8 e9 e10 e11 e12 d0 d1 d2 d3 d4 d5 d6 d7 d8 d9 d10 d11 d12
     have x0 := keepW hM.below cm
     rw [v4]
     go_simp
     exact hK.out _ _ ⟨updV vs 5 (.int .i64 y), by simp [updV, v4], hM0.still HLD 5 (by decide) hl _ e.symm hdp⟩
    ·
     simp only [List.getElem?_toArray, List.getElem?_cons_zero, List.getElem?_cons_succ, Option.some.injEq] at ho
     subst ho
     have hdp : ∀ e ∈ dep 6, l.getD e false = true := by rw [d6]; exact dep_nil
     have e := e6
     clear e0 e1 e2 e3 e4 e5 e6 e7 e8 e9 e10 e11 e12 d0 d1 d2 d3 d4 d5 d6 d7 d8 d9 d10 d11 d12
     go_simp
     exact hK.out _ _ ⟨updV vs 6 (.slice (some ⟨g3, 0, none⟩) n c3), rfl, hM0.still HLD 6 (by decide) hl _ e.symm hdp⟩
    ·
     simp only [List.getElem?_toArray, List.getElem?_cons_zero, List.getElem?_cons_succ, Option.some.injEq] at ho
     subst ho
     have hdp : ∀ e ∈ dep 7, l.getD e false = true := by rw [d7]; exact dep_nil
     have e := e7
     clear e0 e1 e2 e3 e4 e5 e6 e7 e8 e9 e10 e11 e12 d0 d1 d2 d3 d4 d5 d6 d7 d8 d9 d10 d11 d12
     go_simp
     exact hK.out _ _ ⟨updV vs 7 (.int .i64 ↑kk), rfl, hM0.still HLD 7 (by decide) hl _ e.symm hdp⟩
    ·
     simp only [List.getElem?_toArray, List.getElem?_cons_zero, List.getElem?_cons_succ, Option.some.injEq] at ho
     subst ho
     have v6 : vs 6 = .slice (some ⟨g3, 0, none⟩) n c3 := (hM.held 6 (hpre ⟨6, .data⟩ (by simp) rfl)).trans e6
     have v7 : vs 7 = .int .i64 ↑kk := (hM.held 7 (hpre ⟨7, .data⟩ (by simp) rfl)).trans e7
     have hdp : ∀ e ∈ dep 8, l.getD e false = true := by rw [d8]; exact (dep_cons (hpre ⟨6, .data⟩ (by simp) rfl) (dep_cons (hpre ⟨7, .data⟩ (by simp) rfl) dep_nil))
     have e := e8
     clear e0 e1 e2 e3 e4 e5 e6 e7 e8 e9 e10 e11 e12 d0 d1 d2 d3 d4 d5 d6 d7 d8 d9 d10 d11 d12
     rw [v6, v7]
     go_simp
     exact hK.out _ _ ⟨updV vs 8 (.pointer (some ⟨g3, kk, none⟩)), by simp [updV, v6, v7], hM0.still HLD 8 (by decide) hl _ e.symm hdp⟩
    ·
     simp only [List.getElem?_toArray, List.getElem?_cons_zero, List.getElem?_cons_succ, Option.some.injEq] at ho
     subst ho
     have v8 : vs 8 = .pointer (some ⟨g3, kk, none⟩) := (hM.held 8 (hpre ⟨8, .data⟩ (by simp) rfl)).trans e8
     have hdp : ∀ e ∈ dep 9, l.getD e false = true := by rw [d9]; exact (dep_cons (hpre ⟨8, .data⟩ (by simp) rfl) dep_nil)
     have e := e9
     clear e0 e1 e2 e3 e4 e5 e6 e7 e8 e9 e10 e11 e12 d0 d1 d2 d3 d4 d5 d6 d7 d8 d9 d10 d11 d12
     have x0 := keepW hM.below cy
     rw [v8]
     go_simp
     exact hK.out _ _ ⟨updV vs 9 (.int .i64 z), by simp [updV, v8], hM0.still HLD 9 (by decide) hl _ e.symm hdp⟩
    ·
     simp only [List.getElem?_toArray, List.getElem?_cons_zero, List.getElem?_cons_succ, Option.some.injEq] at ho
     subst ho
     have v5 : vs 5 = .int .i64 y := (hM.held 5 (hpre ⟨5, .data⟩ (by simp) rfl)).trans e5
     have v9 : vs 9 = .int .i64 z := (hM.held 9 (hpre ⟨9, .data⟩ (by simp) rfl)).trans e9
     have hdp : ∀ e ∈ dep 10, l.getD e false = true := by rw [d10]; exact (dep_cons (hpre ⟨5, .data⟩ (by simp) rfl) (dep_cons (hpre ⟨9, .data⟩ (by simp) rfl) dep_nil))
     have e := e10
     clear e0 e1 e2 e3 e4 e5 e6 e7 e8 e9 e10 e11 e12 d0 d1 d2 d3 d4 d5 d6 d7 d8 d9 d10 d11 d12
     rw [v5, v9]
     go_simp
     refine (spec_l1Max y z _).mono ?_
     rintro e5 W5 ⟨rfl, hq⟩
     exact hK.out _ _ ⟨updV vs 10 (.int .i64 (max y z)), by simp [updV, v5, v9], hM0.next HLD 10 (by decide) hl _ e.symm hdp (by rw [hq]; exact brefl _)⟩
    ·
     simp only [List.getElem?_toArray, List.getElem?_cons_zero, List.getElem?_cons_succ, Option.some.injEq] at ho
     subst ho
     have v0 : vs 0 = .slice (some ⟨g, 0, none⟩) n cc := (hM.held 0 (hpre ⟨0, .data⟩ (by simp) rfl)).trans e0
     have v1 : vs 1 = .int .i64 ↑kk := (hM.held 1 (hpre ⟨1, .data⟩ (by simp) rfl)).trans e1
     have hdp : ∀ e ∈ dep 11, l.getD e false = true := by rw [d11]; exact (dep_cons (hpre ⟨0, .data⟩ (by simp) rfl) (dep_cons (hpre ⟨1, .data⟩ (by simp) rfl) dep_nil))
     have e := e11
     clear e0 e1 e2 e3 e4 e5 e6 e7 e8 e9 e10 e11 e12 d0 d1 d2 d3 d4 d5 d6 d7 d8 d9 d10 d11 d12
     rw [v0, v1]
     go_simp
     exact hK.out _ _ ⟨updV vs 11 (.pointer (some ⟨g, kk, none⟩)), by simp [updV, v0, v1], hM0.still HLD 11 (by decide) hl _ e.symm hdp⟩
    ·
     simp only [List.getElem?_toArray, List.getElem?_cons_zero, List.getElem?_cons_succ, Option.some.injEq] at ho
     subst ho
     have v11 : vs 11 = .pointer (some ⟨g, kk, none⟩) := (hM.held 11 (hpre ⟨11, .data⟩ (by simp) rfl)).trans e11
     have v10 : vs 10 = .int .i64 (max y z) := (hM.held 10 (hpre ⟨10, .data⟩ (by simp) rfl)).trans e10
     have hdp : ∀ e ∈ dep 12, l.getD e false = true := by rw [d12]; exact (dep_cons (hpre ⟨11, .data⟩ (by simp) rfl) (dep_cons (hpre ⟨10, .data⟩ (by simp) rfl) dep_nil))
     have e := e12
     clear e0 e1 e2 e3 e4 e5 e6 e7 e8 e9 e10 e11 e12 d0 d1 d2 d3 d4 d5 d6 d7 d8 d9 d10 d11 d12
     have fm := HFZ.out _ hM.below
     have cw := keepW hM.below cm
     rw [v11, v10]
     go_simp
     exact hK.out _ _ ⟨updV vs 12 (undef), by simp [updV, v11, v10], hM0.last HLD 12 rfl hl _ e.symm hdp⟩
   case fin =>
    rintro l a W6 hall ⟨vs6, rfl, hM0⟩
    obtain ⟨W61, hM, rfl⟩ := hM0.fin (by decide) hall
    have HBW := hide hM.below
    clear e0 e1 e2 e3 e4 e5 e6 e7 e8 e9 e10 e11 e12 d0 d1 d2 d3 d4 d5 d6 d7 d8 d9 d10 d11 d12 HLD
    go_wp2_with fail
    go_roundg (n - (kk + 1))
    case measure => omega
    case rel =>
     exact ⟨kk + 1, by omega, by omega, by go_num, (show Aside _ from bset (step HBD.out HBW.out) (by show w.heap.size ≤ g; omega) _), (show Aside _ from (HSS.out _ HBW.out).2), (show Aside _ from (HSS.out _ HBW.out).1)⟩
  ·
   have hltz : ¬ (kk : Int) < (n : Int) := by omega
   have HK := hide (show fillM (overL Y) kk X = wishL t cells n by
    rw [show kk = X.length by rw [HL.out]; omega, fillM_full, HR.out])
   go_wp2_with fail
   go_ret
   exact ⟨_, rfl, by rw [← HK.out]; exact HM.out, HB.out⟩
end Go.Proofs.YtpfagdmmhgcmnaaGreatDoor

namespace Go.Proofs.YtpfagdmmhgcmnaaGreatDoor
def upToL (total : Int) (wants : List Int) : List Int × Int := if sumI wants ≤ total then (wants, total - sumI wants) else (share total wants, 0)
def wantsP (kind nn : Nat → Int) (width : Int) (cols : List Int) : List Int := cols.mapIdx fun k has => if kind k = 2 then max (width * nn k / 100 - has) 0 else 0
def wantsA (kind : Nat → Int) (wish cols : List Int) : List Int := cols.mapIdx fun k has => if kind k = 0 then max (wish.getD k 0 - has) 0 else 0
def ofKind (kind : Nat → Int) (q : Int) (n : Nat) : List Int := (List.range n).map fun k => if kind k = q then 1 else 0
def wideL (cols : List Int) (gap : Int) : Int := sumI cols + gap * max ((cols.length : Int) - 1) 0
def partW (kind nn : Nat → Int) (width gap : Int) (least : List Int) : List Int × Int :=
 ((addAt least 0 (upToL (width - wideL least gap) (wantsP kind nn width least)).1), (upToL (width - wideL least gap) (wantsP kind nn width least)).2)
def autoW (kind : Nat → Int) (wish : List Int) (x : List Int × Int) : List Int × Int :=
 ((addAt x.1 0 (upToL x.2 (wantsA kind wish x.1)).1), (upToL x.2 (wantsA kind wish x.1)).2)
def restW (kind : Nat → Int) (x : List Int × Int) : List Int :=
 if 0 < sumI (ofKind kind 0 x.1.length) then addAt x.1 0 (share x.2 (ofKind kind 0 x.1.length))
 else if 0 < sumI (ofKind kind 2 x.1.length) then addAt x.1 0 (share x.2 (ofKind kind 2 x.1.length)) else x.1
def widths (kind nn : Nat → Int) (width gap : Int) (least wish : List Int) : List Int :=
 if width - wideL least gap ≤ 0 then least else restW kind (autoW kind wish (partW kind nn width gap least))
theorem sumI_addAt {xs cols : List Int} (h : xs.length = cols.length) : sumI (addAt cols 0 xs) = sumI cols + sumI xs := by
 have h1 := winS_add (cols := cols) (xs := xs) (a := 0) (by omega)
 have h2 : ∀ l : List Int, l.length = xs.length → winS l 0 xs.length = sumI l := by
  intro l hl
  unfold winS
  rw [List.drop_zero, ← hl, List.take_length]
 rw [h2 _ (by rw [addAt_length]; omega), h2 _ h.symm] at h1
 exact h1
theorem addAt_get0 {xs cols : List Int} (h : xs.length = cols.length) (j : Nat) : (addAt cols 0 xs).getD j 0 = cols.getD j 0 + xs.getD j 0 := by
 rw [addAt_get xs cols 0 j (by omega), Nat.sub_zero, Nat.zero_add]
 by_cases hj : j < xs.length
 ·
  rw [if_pos ⟨Nat.zero_le _, hj⟩]
 ·
  rw [if_neg (by omega)]
  have : xs.getD j 0 = 0 := by rw [List.getD_eq_getElem?_getD, List.getElem?_eq_none (by omega)]; rfl
  omega
theorem upTo_spec {total : Int} {wants : List Int} (ht : 0 ≤ total) (h : ∀ x ∈ wants, 0 ≤ x) :
  (upToL total wants).1.length = wants.length ∧ (∀ x ∈ (upToL total wants).1, 0 ≤ x) ∧ sumI (upToL total wants).1 + (upToL total wants).2 = total ∧ 0 ≤ (upToL total wants).2 ∧ (∀ i, wants.getD i 0 = 0 → (upToL total wants).1.getD i 0 = 0) ∧ (sumI wants ≤ total → (upToL total wants).1 = wants) := by
 unfold upToL
 by_cases hle : sumI wants ≤ total
 ·
  rw [if_pos hle]
  exact ⟨rfl, h, by show sumI wants + (total - sumI wants) = total; omega, by show 0 ≤ total - sumI wants; omega, fun i hi => hi, fun _ => rfl⟩
 ·
  rw [if_neg hle]
  have hn : wants ≠ [] := by rintro rfl; simp [sumI_nil] at hle; omega
  obtain ⟨s1, s2, s3⟩ := share_spec ht h hn
  exact ⟨s1, s3, by show sumI (share total wants) + 0 = total; omega, Int.le_refl _, fun i hi => share_zero (by omega) hi, fun h' => absurd h' hle⟩
theorem wantsP_nonneg (kind nn : Nat → Int) (width : Int) (cols : List Int) : ∀ x ∈ wantsP kind nn width cols, 0 ≤ x := by
 intro x hx
 unfold wantsP at hx
 obtain ⟨i, hi, rfl⟩ := List.getElem_of_mem hx
 rw [List.getElem_mapIdx]
 split <;> omega
theorem wantsA_nonneg (kind : Nat → Int) (wish cols : List Int) : ∀ x ∈ wantsA kind wish cols, 0 ≤ x := by
 intro x hx
 unfold wantsA at hx
 obtain ⟨i, hi, rfl⟩ := List.getElem_of_mem hx
 rw [List.getElem_mapIdx]
 split <;> omega
theorem wantsP_length (kind nn : Nat → Int) (width : Int) (cols : List Int) : (wantsP kind nn width cols).length = cols.length := by simp [wantsP]
theorem wantsA_length (kind : Nat → Int) (wish cols : List Int) : (wantsA kind wish cols).length = cols.length := by simp [wantsA]
theorem wantsP_get (kind nn : Nat → Int) (width : Int) (cols : List Int) (k : Nat) (hk : k < cols.length) : (wantsP kind nn width cols).getD k 0 = if kind k = 2 then max (width * nn k / 100 - cols.getD k 0) 0 else 0 := by
 unfold wantsP
 simp [List.getD_eq_getElem?_getD, hk]
theorem wantsA_get (kind : Nat → Int) (wish cols : List Int) (k : Nat) (hk : k < cols.length) : (wantsA kind wish cols).getD k 0 = if kind k = 0 then max (wish.getD k 0 - cols.getD k 0) 0 else 0 := by
 unfold wantsA
 simp [List.getD_eq_getElem?_getD, hk]
theorem ofKind_get (kind : Nat → Int) (q : Int) (n k : Nat) : (ofKind kind q n).getD k 0 = if k < n ∧ kind k = q then 1 else 0 := by
 unfold ofKind
 simp only [List.getD_eq_getElem?_getD, List.getElem?_map]
 by_cases h : k < n
 ·
  simp [h]
 ·
  simp [h]
theorem ofKind_nonneg (kind : Nat → Int) (q : Int) (n : Nat) : ∀ x ∈ ofKind kind q n, 0 ≤ x := by
 intro x hx
 unfold ofKind at hx
 obtain ⟨k, _, rfl⟩ := List.mem_map.1 hx
 show 0 ≤ if kind k = q then (1 : Int) else 0
 split <;> decide
theorem ofKind_pos {kind : Nat → Int} {q : Int} {n k : Nat} (hk : k < n) (hq : kind k = q) : 0 < sumI (ofKind kind q n) := by
 have h := sumI_ge (ofKind_nonneg kind q n) 1 (by
  unfold ofKind
  exact List.mem_map.2 ⟨k, List.mem_range.2 hk, by rw [if_pos hq]⟩)
 omega
theorem rest_spec {kind : Nat → Int} {q : Int} {x : List Int × Int} (ht : 0 ≤ x.2) (hq : 0 < sumI (ofKind kind q x.1.length)) :
  (addAt x.1 0 (share x.2 (ofKind kind q x.1.length))).length = x.1.length ∧ sumI (addAt x.1 0 (share x.2 (ofKind kind q x.1.length))) = sumI x.1 + x.2 ∧ (∀ j, x.1.getD j 0 ≤ (addAt x.1 0 (share x.2 (ofKind kind q x.1.length))).getD j 0) ∧
   ∀ j, kind j ≠ q → (addAt x.1 0 (share x.2 (ofKind kind q x.1.length))).getD j 0 = x.1.getD j 0 := by
 have hn : ofKind kind q x.1.length ≠ [] := by intro e; rw [e] at hq; simp [sumI_nil] at hq
 obtain ⟨s1, s2, s3⟩ := share_spec ht (ofKind_nonneg kind q x.1.length) hn
 have hl : (share x.2 (ofKind kind q x.1.length)).length = x.1.length := by rw [s1]; simp [ofKind]
 refine ⟨addAt_length _ _ _, by rw [sumI_addAt hl, s2], addAt_ge s3 (by omega), fun j hj => ?_⟩
 rw [addAt_get0 hl, share_zero hq (by rw [ofKind_get, if_neg (fun h => hj h.2)])]
 omega
theorem widths_spec {kind nn : Nat → Int} {width gap : Int} {least wish : List Int} (hkd : ∀ k, kind k = 0 ∨ kind k = 1 ∨ kind k = 2) :
  (widths kind nn width gap least wish).length = least.length ∧ (∀ j, least.getD j 0 ≤ (widths kind nn width gap least wish).getD j 0) ∧ (∀ j, kind j = 1 → (widths kind nn width gap least wish).getD j 0 = least.getD j 0) ∧
   (width - wideL least gap ≤ 0 → widths kind nn width gap least wish = least) ∧
   (0 < width - wideL least gap → ((∀ j, j < least.length → kind j = 1) → widths kind nn width gap least wish = least) ∧ ((∃ j, j < least.length ∧ kind j ≠ 1) → sumI (widths kind nn width gap least wish) = width - gap * max ((least.length : Int) - 1) 0)) := by
 unfold widths
 by_cases h0 : width - wideL least gap ≤ 0
 ·
  rw [if_pos h0]
  exact ⟨rfl, fun _ => Int.le_refl _, fun _ _ => rfl, fun _ => rfl, fun h => by omega⟩
 ·
  rw [if_neg h0]
  obtain ⟨p1, p2, p3, p4, p5, _⟩ := upTo_spec (total := width - wideL least gap) (by omega) (wantsP_nonneg kind nn width least)
  rw [wantsP_length] at p1
  have a1 : (partW kind nn width gap least).1.length = least.length := addAt_length _ _ _
  have a2 : ∀ j, least.getD j 0 ≤ (partW kind nn width gap least).1.getD j 0 := addAt_ge p2 (by omega)
  have a3 : sumI (partW kind nn width gap least).1 + (partW kind nn width gap least).2 = sumI least + (width - wideL least gap) := by
   show sumI (addAt least 0 _) + _ = _
   rw [sumI_addAt p1]
   show sumI least + sumI _ + (upToL (width - wideL least gap) (wantsP kind nn width least)).2 = _
   omega
  have a4 : ∀ j, kind j ≠ 2 → (partW kind nn width gap least).1.getD j 0 = least.getD j 0 := by
   intro j hj
   show (addAt least 0 _).getD j 0 = _
   rw [addAt_get0 p1]
   have : (upToL (width - wideL least gap) (wantsP kind nn width least)).1.getD j 0 = 0 := by
    by_cases hjl : j < least.length
    ·
     exact p5 j (by rw [wantsP_get _ _ _ _ _ hjl, if_neg hj])
    ·
     rw [List.getD_eq_getElem?_getD, List.getElem?_eq_none (by omega)]; rfl
   omega
  have a5 : 0 ≤ (partW kind nn width gap least).2 := p4
  generalize partW kind nn width gap least = x at a1 a2 a3 a4 a5 ⊢
  obtain ⟨q1, q2, q3, q4, q5, _⟩ := upTo_spec (total := x.2) a5 (wantsA_nonneg kind wish x.1)
  rw [wantsA_length] at q1
  have b1 : (autoW kind wish x).1.length = least.length := (addAt_length _ _ _).trans a1
  have b2 : ∀ j, least.getD j 0 ≤ (autoW kind wish x).1.getD j 0 := fun j => Int.le_trans (a2 j) (addAt_ge q2 (by omega) j)
  have b3 : sumI (autoW kind wish x).1 + (autoW kind wish x).2 = sumI least + (width - wideL least gap) := by
   show sumI (addAt x.1 0 _) + _ = _
   rw [sumI_addAt q1]
   show sumI x.1 + sumI _ + (upToL x.2 (wantsA kind wish x.1)).2 = _
   omega
  have b4 : ∀ j, kind j = 1 → (autoW kind wish x).1.getD j 0 = least.getD j 0 := by
   intro j hj
   show (addAt x.1 0 _).getD j 0 = _
   rw [addAt_get0 q1, a4 j (by omega)]
   have : (upToL x.2 (wantsA kind wish x.1)).1.getD j 0 = 0 := by
    by_cases hjl : j < x.1.length
    ·
     exact q5 j (by rw [wantsA_get _ _ _ _ hjl, if_neg (by omega)])
    ·
     rw [List.getD_eq_getElem?_getD, List.getElem?_eq_none (by omega)]; rfl
   omega
  have b5 : 0 ≤ (autoW kind wish x).2 := q4
  generalize autoW kind wish x = y at b1 b2 b3 b4 b5 ⊢
  have hw : sumI least + (width - wideL least gap) = width - gap * max ((least.length : Int) - 1) 0 := by unfold wideL; omega
  unfold restW
  by_cases k0 : 0 < sumI (ofKind kind 0 y.1.length)
  ·
   rw [if_pos k0]
   obtain ⟨r1, r2, r3, r4⟩ := rest_spec (kind := kind) b5 k0
   refine ⟨r1.trans b1, fun j => Int.le_trans (b2 j) (r3 j), fun j hj => (r4 j (by omega)).trans (b4 j hj), fun h => by omega, fun _ => ⟨fun hall => ?_, fun _ => by rw [r2]; omega⟩⟩
   exfalso
   have : sumI (ofKind kind 0 y.1.length) ≤ 0 := by
    have := sumI_le (l := ofKind kind 0 y.1.length) (m := 0) (fun z hz => by
     unfold ofKind at hz
     obtain ⟨k, hk, rfl⟩ := List.mem_map.1 hz
     have := hall k (by have := List.mem_range.1 hk; omega)
     rw [if_neg (by omega)]; exact Int.le_refl _)
    omega
   omega
  ·
   rw [if_neg k0]
   by_cases k2 : 0 < sumI (ofKind kind 2 y.1.length)
   ·
    rw [if_pos k2]
    obtain ⟨r1, r2, r3, r4⟩ := rest_spec (kind := kind) b5 k2
    refine ⟨r1.trans b1, fun j => Int.le_trans (b2 j) (r3 j), fun j hj => (r4 j (by omega)).trans (b4 j hj), fun h => by omega, fun _ => ⟨fun hall => ?_, fun _ => by rw [r2]; omega⟩⟩
    exfalso
    have : sumI (ofKind kind 2 y.1.length) ≤ 0 := by
     have := sumI_le (l := ofKind kind 2 y.1.length) (m := 0) (fun z hz => by
      unfold ofKind at hz
      obtain ⟨k, hk, rfl⟩ := List.mem_map.1 hz
      have := hall k (by have := List.mem_range.1 hk; omega)
      rw [if_neg (by omega)]; exact Int.le_refl _)
     omega
    omega
   ·
    rw [if_neg k2]
    have hno : ∀ j, j < least.length → kind j = 1 := by
     intro j hj
     rcases hkd j with h | h | h
     ·
      exact absurd (ofKind_pos (n := y.1.length) (by omega) h) k0
     ·
      exact h
     ·
      exact absurd (ofKind_pos (n := y.1.length) (by omega) h) k2
    have hyl : y.1 = least := by
     refine List.ext_getElem b1 fun i h1 h2 => ?_
     have := b4 i (hno i h2)
     rw [List.getD_eq_getElem?_getD, List.getD_eq_getElem?_getD, List.getElem?_eq_getElem h1, List.getElem?_eq_getElem h2] at this
     exact this
    refine ⟨b1, b2, b4, fun h => by omega, fun _ => ⟨fun _ => hyl, fun ⟨j, hj, hj2⟩ => absurd (hno j hj) hj2⟩⟩
theorem auto_ge {kind : Nat → Int} {wish : List Int} {x : List Int × Int} (h : 0 ≤ x.2) : (autoW kind wish x).1.length = x.1.length ∧ 0 ≤ (autoW kind wish x).2 ∧ ∀ j, x.1.getD j 0 ≤ (autoW kind wish x).1.getD j 0 := by
 obtain ⟨q1, q2, q3, q4, q5, _⟩ := upTo_spec (total := x.2) h (wantsA_nonneg kind wish x.1)
 rw [wantsA_length] at q1
 exact ⟨addAt_length _ _ _, q4, addAt_ge q2 (by omega)⟩
theorem rest_ge {kind : Nat → Int} {x : List Int × Int} (h : 0 ≤ x.2) (j : Nat) : x.1.getD j 0 ≤ (restW kind x).getD j 0 := by
 unfold restW
 split
 ·
  rename_i h0; exact (rest_spec h h0).2.2.1 j
 ·
  split
  ·
   rename_i h0; exact (rest_spec h h0).2.2.1 j
  ·
   exact Int.le_refl _
theorem widths_parts {kind nn : Nat → Int} {width gap : Int} {least wish : List Int} (hneed : sumI (wantsP kind nn width least) ≤ width - wideL least gap) {k : Nat} (hk : k < least.length) (hk2 : kind k = 2) :
  width * nn k / 100 ≤ (widths kind nn width gap least wish).getD k 0 := by
 have hw := wantsP_get kind nn width least k hk
 rw [if_pos hk2] at hw
 unfold widths
 by_cases h0 : width - wideL least gap ≤ 0
 ·
  rw [if_pos h0]
  have hnn := wantsP_nonneg kind nn width least
  have h1 := sumI_nonneg hnn
  have h2 := getD_nonneg hnn k
  have h3 : (wantsP kind nn width least).getD k 0 = 0 := by
   rw [List.getD_eq_getElem?_getD]
   cases e : (wantsP kind nn width least)[k]? with
   | none => rfl
   | some v => exact sumI_zero hnn (by omega) v (List.mem_of_getElem? e)
  omega
 ·
  rw [if_neg h0]
  obtain ⟨p1, p2, p3, p4, p5, p6⟩ := upTo_spec (total := width - wideL least gap) (by omega) (wantsP_nonneg kind nn width least)
  rw [wantsP_length] at p1
  have a1 : (partW kind nn width gap least).1.getD k 0 = least.getD k 0 + max (width * nn k / 100 - least.getD k 0) 0 := by
   show (addAt least 0 _).getD k 0 = _
   rw [addAt_get0 p1, p6 hneed, hw]
  have a2 : 0 ≤ (partW kind nn width gap least).2 := p4
  obtain ⟨b1, b2, b3⟩ := auto_ge (kind := kind) (wish := wish) a2
  have b4 := b3 k
  have b5 := rest_ge (kind := kind) b2 k
  omega
end Go.Proofs.YtpfagdmmhgcmnaaGreatDoor

namespace Go.Proofs.YtpfagdmmhgcmnaaGreatDoor
open Go.RowKit
def kindT (t : Tbl) (k : Nat) : Int := (saidOf t k).k
def numT (t : Tbl) (k : Nat) : Int := (saidOf t k).n
set_option maxRecDepth 100000 in
set_option maxHeartbeats 4000000 in
theorem impl_add (base base2 g c n g2 c2 : Nat) (X Y : List Int) (w : World) (hX : IOwn w base (.slice (some ⟨g, 0, none⟩) n c) X) (hY : IOwn w base2 (.slice (some ⟨g2, 0, none⟩) n c2) Y) (hl : X.length = n) (hl2 : Y.length = n) (hne : g ≠ g2) (hn : n ≤ 1000) (hb : base ≤ g)
  (hx : ∀ x ∈ X, 0 ≤ x ∧ x ≤ 1000000) (hy : ∀ x ∈ Y, 0 ≤ x ∧ x ≤ 1000000) :
  Calls Tryz.prog 126 #[.slice (some ⟨g, 0, none⟩) n c, .slice (some ⟨g2, 0, none⟩) n c2] w fun e w' => e = .returned (.tuple #[]) ∧ IOwn w' base (.slice (some ⟨g, 0, none⟩) n c) (addAt X 0 Y) ∧ w.grownBy w' (some g) := by
 have HX := hide hX
 have HY := hide hY
 have HL := hide hl
 have HL2 := hide hl2
 have HBX := hide hx
 have HBY := hide hy
 clear hX hY hl hl2 hx hy
 go_enter Tryz.func126, Tryz.ntmps126
 go_wp2_with fail
 go_loopg [4, 5, 8] n (fun gg s4 s5 s8 wr => ∃ j : Nat, j ≤ n ∧ n - j ≤ gg ∧ s8 = .int .i64 j ∧ Aside (IOwn wr base (.slice (some ⟨g, 0, none⟩) n c) (addAt X 0 (Y.take j))) ∧ Aside (IOwn wr base2 (.slice (some ⟨g2, 0, none⟩) n c2) Y) ∧ Aside (w.grownBy wr (some g)))
 case atStart => exact ⟨0, Nat.zero_le _, by omega, rfl, (show Aside _ from by show IOwn _ _ _ _; rw [List.take_zero]; exact HX.out), HY.out, grow_refl _ _⟩
 case round =>
  obtain ⟨j, hj, hgg, rfl, HM, HZ, HG⟩ := hrel
  by_cases hlt : j < n
  ·
   have hltz : (j : Int) < (n : Int) := by omega
   have c0 := HZ.out.cell (j := j) (by rw [HL2.out]; exact hlt)
   have hxl : (addAt X 0 (Y.take j)).length = n := by rw [addAt_length]; exact HL.out
   have c1 := HM.out.cell (j := j) (by rw [hxl]; exact hlt)
   have f1 := HM.out.frozen j
   have hget := addAt_get (Y.take j) X 0 j (by rw [HL.out]; simp; omega)
   rw [if_neg (by simp; omega), Int.add_zero] at hget
   have hxb := int_at HBX.out j (by rw [HL.out]; exact hlt)
   have hyb := int_at HBY.out j (by rw [HL2.out]; exact hlt)
   have hsn := addAt_snoc (Y.take j) (Y.getD j 0) X 0
   rw [take_snoc (by rw [HL2.out]; exact hlt), List.length_take, HL2.out, Nat.min_eq_left (by omega), Nat.zero_add] at hsn
   rw [← hget] at hxb
   have hso := fun v => HZ.out.other (a := ⟨g, j, none⟩) hne v
   generalize Y.getD j 0 = y at c0 hyb hsn
   generalize (addAt X 0 (Y.take j)).getD j 0 = x at c1 hxb hsn
   have t1 : IntKind.i64.wrap (x + y) = x + y := by rw [IntKind.wrap_i64]; omega
   have HSN := hide hsn
   have HSO := hide hso
   clear hxl hget hxb hyb hsn hso
   go_wp2_with fail
   go_roundg (n - (j + 1))
   case measure => omega
   case rel => exact ⟨j + 1, by omega, by omega, by go_num, (show Aside _ from by rw [HSN.out]; exact HM.out.store j (x + y)), HSO.out _, grow_trans HG.out (grow_set _ rfl _)⟩
  ·
   have hltz : ¬ (j : Int) < (n : Int) := by omega
   have hO := HM.out
   rw [List.take_of_length_le (by rw [HL2.out]; omega)] at hO
   have HO := hide hO
   clear hO
   go_wp2_with fail
   go_end0
   exact ⟨rfl, HO.out, HG.out⟩
theorem ofKind_fill (f : Nat → Int) (q : Int) (n : Nat) : (List.replicate n (0 : Int)).mapIdx (fun j x => if f j = q then 1 else x) = ofKind f q n := by
 unfold ofKind
 apply List.ext_getElem (by simp)
 intro i h1 h2
 simp
theorem anyKind (f : Nat → Int) (q : Int) (n : Nat) : ((List.range n).any fun j => decide (f j = q)) = decide (0 < sumI (ofKind f q n)) := by
 rw [Bool.eq_iff_iff, List.any_eq_true, decide_eq_true_iff]
 constructor
 ·
  rintro ⟨j, hj, hq⟩
  exact ofKind_pos (List.mem_range.1 hj) (of_decide_eq_true hq)
 ·
  intro h
  refine Classical.byContradiction fun hno => ?_
  have hz : ∀ x ∈ ofKind f q n, x = 0 := by
   intro x hx
   unfold ofKind at hx
   obtain ⟨k, hk, rfl⟩ := List.mem_map.1 hx
   rw [if_neg]
   intro hq
   exact hno ⟨k, hk, decide_eq_true hq⟩
  have : sumI (ofKind f q n) ≤ 0 * (ofKind f q n).length := sumI_le fun x hx => by rw [hz x hx]; decide
  omega
set_option linter.unusedSimpArgs false in
set_option maxRecDepth 100000 in
set_option maxHeartbeats 4000000 in
theorem impl_alike (t : Tbl) (A : Option Addr) (c : Nat) (A' : Option Addr) (c' : Nat) (n : Nat) (q : Int) (w : World) (hc : Rd colR w A t.cols) (hn : 1 ≤ n ∧ n ≤ 1000) :
  Calls Tryz.prog 128 #[.agg #[.slice A t.cols.length c, .int .i64 t.head, .int .i64 t.foot, .slice A' t.rows.length c', .int .i64 t.gap], .int .i64 n, .int .i64 q] w fun e w' => ∃ v, e = .returned (.tuple #[v, .bool (decide (0 < sumI (ofKind (kindT t) q n)))]) ∧ IOwn w' w.heap.size v (ofKind (kindT t) q n) ∧ Below w.heap.size w w' := by
 have hmk := make_eq (P := Tryz.prog) (z := .int .i64 0) (k := 1) (bytes := 8) und_ints info_ints n (by omega) (by omega)
 have m := made_ints (w.alloc (.cells #[.slice A t.cols.length c, .int .i64 t.head, .int .i64 t.foot, .slice A' t.rows.length c', .int .i64 t.gap] 26)) w.heap.size n (by simp) (by omega)
 rw [Nat.mul_one] at m
 have hz2 : ((w.alloc (.cells #[.slice A t.cols.length c, .int .i64 t.head, .int .i64 t.foot, .slice A' t.rows.length c', .int .i64 t.gap] 26)).alloc (.cells (madeCells #[Value.int .i64 0] n) 3)).heap.size = w.heap.size + 2 := by simp
 obtain ⟨V, hV⟩ : ∃ V, V = (w.alloc (.cells #[.slice A t.cols.length c, .int .i64 t.head, .int .i64 t.foot, .slice A' t.rows.length c', .int .i64 t.gap] 26)).alloc (.cells (madeCells #[Value.int .i64 0] n) 3) := ⟨_, rfl⟩
 have M : Hid (IOwn V w.heap.size (.slice (some ⟨w.heap.size + 1, 0, none⟩) n n) (List.replicate n 0)) := by
  have e1 : (w.alloc (.cells #[.slice A t.cols.length c, .int .i64 t.head, .int .i64 t.foot, .slice A' t.rows.length c', .int .i64 t.gap] 26)).heap.size = w.heap.size + 1 := by simp
  rw [e1] at m
  rw [hV]; exact m
 have hS := fun (W : World) (h : Below w.heap.size w W) (k : Nat) (hk : k ≤ 1000000) => impl_said t A c A' c' k W (hc.below h) (by omega) (by omega)
 have hB : Below w.heap.size w V := by rw [hV]; exact balloc (balloc (brefl _) _) _
 have hK : BlockAt V w.heap.size [.slice A t.cols.length c, .int .i64 t.head, .int .i64 t.foot, .slice A' t.rows.length c', .int .i64 t.gap] := by
  rw [hV]; exact (BlockAt.new w [.slice A t.cols.length c, .int .i64 t.head, .int .i64 t.foot, .slice A' t.rows.length c', .int .i64 t.gap] 26).keep ((balloc (brefl _) _).block w.heap.size (by simp))
 have hzV : V.heap.size = w.heap.size + 2 := by rw [hV]; exact hz2
 have HB := hide hB
 have HK := hide hK
 have HV := hide hV
 clear m hc hz2 hB hK hV
 have hfc := fieldC
 go_enter Tryz.func128, Tryz.ntmps128
 go_wp2_with fail
 rw [← HV.out]
 go_loopg [9, 10, 15] n (fun gg s9 s10 s15 wr => ∃ j : Nat, j ≤ n ∧ n - j ≤ gg ∧ s15 = .int .i64 j ∧ s9 = .bool ((List.range j).any fun k => decide (kindT t k = q)) ∧ Aside (IOwn wr w.heap.size (.slice (some ⟨w.heap.size + 1, 0, none⟩) n n) (fillM (fun k x => if kindT t k = q then 1 else x) j (List.replicate n 0))) ∧ Aside (Below w.heap.size w wr) ∧ Aside (BlockAt wr w.heap.size [.slice A t.cols.length c, .int .i64 t.head, .int .i64 t.foot, .slice A' t.rows.length c', .int .i64 t.gap]))
 case atStart => exact ⟨0, Nat.zero_le _, by omega, rfl, rfl, (show Aside _ from by rw [fillM_zero]; exact M.out), HB.out, HK.out⟩
 case round =>
  obtain ⟨j, hj, hgg, rfl, rfl, HM, HBW, HKW⟩ := hrel
  by_cases hlt : j < n
  ·
   have hltz : (j : Int) < (n : Int) := by omega
   have y0 := HKW.out.1 0 _ rfl
   have y1 := HKW.out.1 1 _ rfl
   have y2 := HKW.out.1 2 _ rfl
   have y3 := HKW.out.1 3 _ rfl
   have y4 := HKW.out.1 4 _ rfl
   have hSj := hS wr HBW.out j (by omega)
   have hr1 : (List.range (j + 1)).any (fun k => decide (kindT t k = q)) = ((List.range j).any (fun k => decide (kindT t k = q)) || decide (kindT t j = q)) := by rw [List.range_succ, List.any_append]; simp
   have HR1 := hide hr1
   have hml : j < (fillM (fun k x => if kindT t k = q then 1 else x) j (List.replicate n (0 : Int))).length := by rw [fillM_length]; simp; omega
   obtain ⟨k0, hk0⟩ : ∃ k0, (saidOf t j).k = k0 := ⟨_, rfl⟩
   have hk1 : kindT t j = k0 := hk0
   rw [hk0] at hSj
   have HK1 := hide hk1
   clear hk0 hk1 hr1
   go_wp2_with fail
   refine hSj.mono ?_
   rintro e w5 ⟨rfl, hb5⟩
   have hwl : w.heap.size + 1 < wr.heap.size := by
    obtain ⟨g', c2, e, _, h2, _⟩ := HM.out.at (by omega)
    injection e with e; injection e with e; injection e with e; omega
   have HB5 := hide (step HBW.out hb5)
   have HM5 := hide (HM.out.below hb5)
   have HK5 := hide (HKW.out.keep (hb5.block w.heap.size (by omega)))
   clear y0 y1 y2 y3 y4 hSj hb5
   by_cases h1 : k0 = q
   ·
    have h1z : (k0 == q) = true := by simp [h1]
    have cm := HM5.out.cell (j := j) hml
    have fm := HM5.out.frozen j
    have hst := HM5.out.store j (1 : Int)
    have hfs := fillM_set (fun k x => if kindT t k = q then (1 : Int) else x) j (List.replicate n 0) (by simp; omega)
    simp only [HK1.out, if_pos h1] at hfs
    rw [hfs] at hst
    have HST := hide hst
    have hkb := HK5.out.keep (heap_set w5 ⟨w.heap.size + 1, j, none⟩ (.int .i64 1) w.heap.size (by show w.heap.size ≠ w.heap.size + 1; omega))
    have HKB := hide hkb
    rw [fillM_at] at cm
    clear hst hfs hml hkb
    go_wp2_with fail
    go_roundg (n - (j + 1))
    case measure => omega
    case rel => exact ⟨j + 1, by omega, by omega, by go_num, by rw [HR1.out, HK1.out]; simp [h1], HST.out, (show Aside _ from bset HB5.out (by show w.heap.size ≤ w.heap.size + 1; omega) _), HKB.out⟩
   ·
    have h1z : (k0 == q) = false := by simp [h1]
    have HSK := hide (fillM_skip (fun k x => if kindT t k = q then (1 : Int) else x) j (List.replicate n 0) (by simp only [HK1.out, if_neg h1]))
    clear hml
    go_wp2_with fail
    go_roundg (n - (j + 1))
    case measure => omega
    case rel => exact ⟨j + 1, by omega, by omega, by go_num, by rw [HR1.out, HK1.out]; simp [h1], (show Aside _ from by rw [HSK.out]; exact HM5.out), HB5.out, HK5.out⟩
  ·
   have hltz : ¬ (j : Int) < (n : Int) := by omega
   have hjn : j = n := by omega
   have hO := HM.out
   rw [show fillM (fun k x => if kindT t k = q then (1 : Int) else x) j (List.replicate n 0) = ofKind (kindT t) q n by
    rw [← ofKind_fill, ← fillM_full, List.length_replicate, hjn]] at hO
   have hA := anyKind (kindT t) q n
   have HA := hide hA
   rw [hjn, HA.out]
   have HO := hide hO
   clear hO hA hjn
   go_wp2_with fail
   exact bodyPost_ret (v := .tuple #[.slice (some ⟨w.heap.size + 1, 0, none⟩) n n, .bool (decide (0 < sumI (ofKind (kindT t) q n)))]) (by simp [results, Tryz.results128, go_sem, *]) rfl ⟨_, rfl, HO.out, HBW.out⟩
set_option maxRecDepth 100000 in
set_option maxHeartbeats 4000000 in
theorem impl_ShrUpTo (total : Int) (base : Nat) (A : Option Addr) (c : Nat) (ws : List Int) (w : World) (hI : IOwn w base (.slice A ws.length c) ws) (h : ShrIn total ws) (hn : 0 < ws.length) :
  Calls Tryz.prog 124 #[.int .i64 total, .slice A ws.length c] w fun e w' => ∃ v, e = .returned (.tuple #[v, .int .i64 (upToL total ws).2]) ∧ IOwn w' w.heap.size v (upToL total ws).1 ∧ Below w.heap.size w w' := by
 have hOK := impl_ShrOk total A c ws w (irow_rd hI) h
 have hSUM := fun (W : World) (hb : Below w.heap.size w W) => impl_sumOf A c ws W ((irow_rd hI).below hb) (fun x hx => by have := h.2.1 x hx; omega) (by have := h.2.2; omega)
 have hSH := fun (W : World) (hb : Below w.heap.size w W) => impl_ShrShare total A c ws W ((irow_rd hI).below hb) h hn
 have hCL := fun (W : World) (hb : Below w.heap.size w W) => cloneInts (.slice A ws.length c) ws W (Lies.below (Lies.of hI) hb) (by have := h.2.2; omega)
 have ht := h.1
 obtain ⟨s1, s2⟩ := sum_le 100000 ws h.2.1
 have hl := h.2.2
 obtain ⟨s, hs⟩ : ∃ s, sumI ws = s := ⟨_, rfl⟩
 rw [hs] at hSUM s1 s2
 have t1 : IntKind.i64.wrap (total - s) = total - s := by rw [IntKind.wrap_i64]; omega
 by_cases hle : s ≤ total
 ·
  have hup : upToL total ws = (ws, total - s) := by unfold upToL; rw [hs, if_pos hle]
  rw [hup]
  have hz : (total - s) ≥ 0 := by omega
  have hz2 : 0 ≤ total - s := by omega
  clear hI h hs hup hSH
  go_enter Tryz.func124, Tryz.ntmps124
  go_wp2_with fail
  refine hOK.mono ?_
  rintro e w1 ⟨rfl, hb1⟩
  have hS1 := hSUM w1 hb1
  have HC1 := hide (hCL w1 hb1)
  have HB1 := hide hb1
  clear hOK hSUM hCL hb1
  go_wp2_with fail
  refine hS1.mono ?_
  rintro e w2 ⟨rfl, hw2⟩
  obtain rfl := hw2.symm
  clear hS1
  have hC1 := HC1.out
  go_wp2_with fail
  refine hC1.mono ?_
  rintro e w3 ⟨v, rfl, hO, hb3⟩
  have HO := hide hO
  have HB3 := hide (step HB1.out hb3)
  have hs2 := HB1.out.size
  clear hC1 hO hb3
  go_wp2_with fail
  exact bodyPost_ret (v := .tuple #[v, .int .i64 (total - s)]) (by simp [results, Tryz.results124, go_sem, *]) rfl ⟨_, rfl, HO.out.base hs2, HB3.out⟩
 ·
  have hup : upToL total ws = (share total ws, 0) := by unfold upToL; rw [hs, if_neg hle]
  rw [hup]
  have hz : ¬ (total - s) ≥ 0 := by omega
  have hz2 : ¬ 0 ≤ total - s := by omega
  clear hI h hs hup hCL
  go_enter Tryz.func124, Tryz.ntmps124
  go_wp2_with fail
  refine hOK.mono ?_
  rintro e w1 ⟨rfl, hb1⟩
  have hS1 := hSUM w1 hb1
  have HC1 := hide (hSH w1 hb1)
  have HB1 := hide hb1
  clear hOK hSUM hSH hb1
  go_wp2_with fail
  refine hS1.mono ?_
  rintro e w2 ⟨rfl, hw2⟩
  obtain rfl := hw2.symm
  clear hS1
  have hC1 := HC1.out
  go_wp2_with fail
  refine hC1.mono ?_
  rintro e w3 ⟨v, rfl, hO, hb3⟩
  have HO := hide hO
  have HB3 := hide (step HB1.out hb3)
  have hs2 := HB1.out.size
  clear hC1 hO hb3
  go_wp2_with fail
  exact bodyPost_ret (v := .tuple #[v, .int .i64 0]) (by simp [results, Tryz.results124, go_sem, *]) rfl ⟨_, rfl, HO.out.base hs2, HB3.out⟩
end Go.Proofs.YtpfagdmmhgcmnaaGreatDoor
