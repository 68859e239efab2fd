import Derived.Test.YtpfagdmmhgcmnaaGreatDoorMixTw
import Derived.Test.YtpfagdmmhgcmnaaGreatDoorMixDm
import Derived.Test.YtpfagdmmhgcmnaaGreatDoorMixSk
import Derived.Deep.RegionHeld3
import Derived.Deep.DeepCutAuto
import Derived.Outline
import Derived.Test.YtpfagdmmhgcmnaaGreatDoorMixUt
import Derived.Test.YtpfagdmmhgcmnaaGreatDoorMixTl
import Derived.ArgAppend
set_option linter.unusedVariables false
set_option linter.unusedSimpArgs false
namespace Go.Proofs.YtpfagdmmhgcmnaaGreatDoor
open Go.RowKit
set_option linter.unusedSimpArgs false in
set_option maxRecDepth 100000 in
set_option maxHeartbeats 40000000 in
theorem spec_l5Wish (t : Tbl) (A : Option Addr) (c : Nat) (A' : Option Addr) (c' : Nat) (gr : Int) (n : Nat) (cells : List GCell) (GA : Option Addr) (gc : Nat) (w : World) (hc : Rd colR w A t.cols) (hr : Rd rowR w A' t.rows) (hG : Rd gcR w GA cells)
  (hg : 0 ≤ t.gap ∧ t.gap ≤ 3) (hn : 1 ≤ n ∧ n ≤ 1000) (hcell : ∀ x ∈ cells, CellIn n (fun c => leastT (textOf t c)) x ∧ CellAt t x ∧ 0 ≤ leastT (textOf t x))
  (hcell2 : ∀ x ∈ cells, CellIn n (fun c => wishT (textOf t c)) x ∧ CellAt t x ∧ 0 ≤ wishT (textOf t x)) (hcl : cells.length ≤ 1000) :
  Calls Tryz.prog 70 #[.agg #[.slice A t.cols.length c, .int .i64 t.head, .int .i64 t.foot, .slice A' t.rows.length c', .int .i64 t.gap], .agg #[.int .i64 gr, .int .i64 n, .slice GA cells.length gc]] w fun e w' => ∃ v, e = .returned v ∧ IOwn w' w.heap.size v (wishL t cells n) ∧ Below w.heap.size w w' := by
 have hZ := fun (W : World) => spec_l5Zero gr n cells GA gc W (by omega)
 have hM := fun (W : World) (h : Below w.heap.size w W) (FA : Option Addr) (fc : Nat) hf => spec_l5Need t A c A' c' gr n cells GA gc false FA fc W (hr.below h) (hG.below h) hf hg hn (by simpa using hcell2) hcl
 have hE := fun (W : World) (h : Below w.heap.size w W) => spec_l5Least t A c A' c' gr n cells GA gc W (hc.below h) (hr.below h) (hG.below h) hg hn hcell hcl
 have hlen : (made t.gap (fun c => wishT (textOf t c)) cells n).length = n := (made_spec hg.1 (fun x hx => (hcell2 x hx).1)).1.1
 have hlen2 : (leastL t cells n).length = n := by
  unfold leastL; rw [List.length_mapIdx]; exact (made_spec hg.1 (fun x hx => (hcell x hx).1)).1.1
 have hw2 : wishL t cells n = (made t.gap (fun c => wishT (textOf t c)) cells n).mapIdx (overL (leastL t cells n)) := rfl
 simp only [Bool.false_eq_true, if_false] at hM
 generalize hX : made t.gap (fun c => wishT (textOf t c)) cells n = X at hM hlen hw2
 generalize hY : leastL t cells n = Y at hE hlen2 hw2
 have HL := hide hlen
 have HL2 := hide hlen2
 have HR := hide hw2
 clear hc hr hG hcell hcell2 hX hY hlen hlen2 hw2
 go_enter Tryz.func70, Tryz.ntmps70
 have HB := hide (balloc (balloc (brefl w) (.cells #[.slice A t.cols.length c, .int .i64 t.head, .int .i64 t.foot, .slice A' t.rows.length c', .int .i64 t.gap] 26)) (.cells #[.int .i64 gr, .int .i64 n, .slice GA cells.length gc] 35))
 go_upto_region 1 with fail
 go_cut [5] from 5 to 13 (fun s5 wx => ∃ g cc, s5 = .slice (some ⟨g, 0, none⟩) n cc ∧ w.heap.size + 2 ≤ g ∧ Aside (Below w.heap.size w wx) ∧ Aside (IOwn wx w.heap.size (.slice (some ⟨g, 0, none⟩) n cc) X) ∧ wx.cell? ⟨w.heap.size, 0, none⟩ = some (.slice A t.cols.length c) ∧ wx.cell? ⟨w.heap.size, 1, none⟩ = some (.int .i64 t.head) ∧ wx.cell? ⟨w.heap.size, 2, none⟩ = some (.int .i64 t.foot) ∧ wx.cell? ⟨w.heap.size, 3, none⟩ = some (.slice A' t.rows.length c') ∧ wx.cell? ⟨w.heap.size, 4, none⟩ = some (.int .i64 t.gap) ∧ wx.cell? ⟨w.heap.size + 1, 0, none⟩ = some (.int .i64 gr) ∧ wx.cell? ⟨w.heap.size + 1, 1, none⟩ = some (.int .i64 n) ∧ wx.cell? ⟨w.heap.size + 1, 2, none⟩ = some (.slice GA cells.length gc))
 case first =>
  go_region_with (first
   | (go_at_call 103; refine (hZ _).mono ?_; rintro e w2 ⟨v, rfl, hI, hb2⟩; obtain ⟨c2, f2, s2⟩ := seenBk w.heap.size (by first | (simp; omega) | simp [*]) hb2; obtain ⟨c3, f3, s3⟩ := seenBk (w.heap.size + 1) (by first | (simp; omega) | simp [*]) hb2; obtain ⟨A2, d2, rfl⟩ := hI.form; have hrd := irow_rd hI; rw [List.length_replicate])
   | (go_at_call 102; refine (hM _ ?_ A2 d2 ?_).mono ?_; (first | exact step HB.out hb2 | exact step (bdrew HB.out) hb2 | exact bdrew (step HB.out hb2) | exact bdrew (step (bdrew HB.out) hb2)); (first | exact hrd | exact hrd.below (bdrew (brefl _))); rintro e w3 ⟨v, rfl, hI3, hb3⟩; obtain ⟨c4, f4, s4⟩ := seenBk w.heap.size (by first | (simp; omega) | simp [*]) hb3; obtain ⟨c5, f5, s5⟩ := seenBk (w.heap.size + 1) (by first | (simp; omega) | simp [*]) hb3; obtain ⟨g, cc, rfl, hg1, hg2, _, _⟩ := hI3.at (by rw [HL.out]; exact hn.1); rw [HL.out]; rw [HL.out] at hI3))
  all_goals
   have hsz : w.heap.size ≤ w2.heap.size := Nat.le_trans HB.out.size hb2.size
   have hsz2 : w.heap.size + 2 ≤ w2.heap.size := by have h0 := hb2.size; simp at h0; omega
   have y0 : w3.cell? ⟨w.heap.size, 0, none⟩ = some (.slice A t.cols.length c) := by simp [c4, c2]
   have y1 : w3.cell? ⟨w.heap.size, 1, none⟩ = some (.int .i64 t.head) := by simp [c4, c2]
   have y2 : w3.cell? ⟨w.heap.size, 2, none⟩ = some (.int .i64 t.foot) := by simp [c4, c2]
   have y3 : w3.cell? ⟨w.heap.size, 3, none⟩ = some (.slice A' t.rows.length c') := by simp [c4, c2]
   have y4 : w3.cell? ⟨w.heap.size, 4, none⟩ = some (.int .i64 t.gap) := by simp [c4, c2]
   have y5 : w3.cell? ⟨w.heap.size + 1, 0, none⟩ = some (.int .i64 gr) := by simp [c5, c3]
   have y6 : w3.cell? ⟨w.heap.size + 1, 1, none⟩ = some (.int .i64 n) := by simp [c5, c3]
   have y7 : w3.cell? ⟨w.heap.size + 1, 2, none⟩ = some (.slice GA cells.length gc) := by simp [c5, c3]
   go_wp2_with fail
   go_meet
   case rel =>
    refine ⟨g, cc, rfl, Nat.le_trans hsz2 hg1, (show Aside _ from ?_), (show Aside _ from ?_), y0, y1, y2, y3, y4, y5, y6, y7⟩
    ·
     show Below _ _ _
     (repeat' (with_reducible first | exact HB.out | refine bdrew ?_ | refine step ?_ (by with_reducible assumption)))
    ·
     first
      | exact hI3.base hsz
      | exact (hI3.base hsz).below (bdrew (brefl _))
 case rest =>
 obtain ⟨g, cc, rfl, hgw, HB2, HI, y0, y1, y2, y3, y4, y5, y6, y7⟩ := hcut
 go_wp2_with fail
 refine (hE _ HB2.out).mono ?_
 rintro e w3 ⟨v, rfl, hO3, hb3⟩
 have HB3 := hide (step HB2.out hb3)
 have HX3 := hide (HI.out.below hb3)
 have hgl0 : g < wc.heap.size := by
  obtain ⟨g', c2, e, _, h2, _⟩ := HI.out.at (by rw [HL.out]; omega)
  injection e with e; injection e with e; injection e with e; omega
 obtain ⟨g3, c3, rfl, hg3, hg4, _, _⟩ := hO3.at (by rw [HL2.out]; exact hn.1)
 have hne : g ≠ g3 := by omega
 rw [HL2.out]
 rw [HL2.out] at hO3
 have HO3 := hide hO3
 clear hO3 hb3 y0 y1 y2 y3 y4 y5 y6 y7 hE
 go_wp2_with fail
 go_loopg [7] n (fun gg s7 wr => ∃ kk : Nat, kk ≤ n ∧ n - kk ≤ gg ∧ s7 = .int .i64 kk ∧ Aside (Below w.heap.size w wr) ∧ Aside (IOwn wr wc.heap.size (.slice (some ⟨g3, 0, none⟩) n c3) Y) ∧ Aside (IOwn wr w.heap.size (.slice (some ⟨g, 0, none⟩) n cc) (fillM (overL Y) kk X)))
 case atStart => exact ⟨0, Nat.zero_le _, by omega, rfl, HB3.out, HO3.out, (show Aside _ from by rw [fillM_zero]; exact HX3.out)⟩
 case round =>
  obtain ⟨kk, hkk, hgg, rfl, HB, HY, HM⟩ := hrel
  by_cases hlt : kk < n
  ·
   have hltz : (kk : Int) < (n : Int) := by omega
   go_wp2_with fail
   obtain ⟨y, hy⟩ : ∃ y, X.getD kk 0 = y := ⟨_, rfl⟩
   obtain ⟨z, hz⟩ : ∃ z, Y.getD kk 0 = z := ⟨_, rfl⟩
   have HMD : Hid (IOwn wr.drew w.heap.size (.slice (some ⟨g, 0, none⟩) n cc) (fillM (overL Y) kk X)) := HM.out.below (bdrew (brefl _))
   have HYD : Hid (IOwn wr.drew wc.heap.size (.slice (some ⟨g3, 0, none⟩) n c3) Y) := HY.out.below (bdrew (brefl _))
   have HBD := hide (bdrew HB.out)
   have hml : kk < (fillM (overL Y) kk X).length := by rw [fillM_length, HL.out]; omega
   have cm := HMD.out.cell (j := kk) hml
   have cy := HYD.out.cell (j := kk) (by rw [HL2.out]; omega)
   rw [fillM_at, hy] at cm
   rw [hz] at cy
   have HFZ : Hid (∀ W, Below wr.drew.heap.size wr.drew W → W.frozen? ⟨g, kk, none⟩ = false) := fun W h => (HMD.out.below h).frozen kk
   have HSS : Hid (∀ W, Below wr.drew.heap.size wr.drew W → IOwn (W.setCell ⟨g, kk, none⟩ (.int .i64 (max y z))) w.heap.size (.slice (some ⟨g, 0, none⟩) n cc) (fillM (overL Y) (kk + 1) X) ∧ IOwn (W.setCell ⟨g, kk, none⟩ (.int .i64 (max y z))) wc.heap.size (.slice (some ⟨g3, 0, none⟩) n c3) Y) := fun W h => by
    have h1 := (HMD.out.below h).store kk (overL Y kk (X.getD kk 0))
    have h2 : overL Y kk (X.getD kk 0) = max y z := by unfold overL; rw [hy, hz]
    rw [fillM_set _ _ _ (by rw [HL.out]; omega), h2] at h1
    exact ⟨h1, (HYD.out.below h).other (a := ⟨g, kk, none⟩) hne (.int .i64 (max y z))⟩
   clear hml hy hz HM HY
   obtain ⟨vals, hvals⟩ : ∃ f : Nat → Value, f = (fun j => match j with | 0 => .slice (some ⟨g, 0, none⟩) n cc | 1 => .int .i64 ↑kk | 2 => .slice (some ⟨g, 0, none⟩) n cc | 3 => .int .i64 ↑kk | 4 => .pointer (some ⟨g, kk, none⟩) | 5 => .int .i64 y | 6 => .slice (some ⟨g3, 0, none⟩) n c3 | 7 => .int .i64 ↑kk | 8 => .pointer (some ⟨g3, kk, none⟩) | 9 => .int .i64 z | 10 => .int .i64 (max y z) | 11 => .pointer (some ⟨g, kk, none⟩) | 12 => undef | _ => undef) := ⟨_, rfl⟩
   have e0 : vals 0 = .slice (some ⟨g, 0, none⟩) n cc := congrFun hvals 0
   have e1 : vals 1 = .int .i64 ↑kk := congrFun hvals 1
   have e2 : vals 2 = .slice (some ⟨g, 0, none⟩) n cc := congrFun hvals 2
   have e3 : vals 3 = .int .i64 ↑kk := congrFun hvals 3
   have e4 : vals 4 = .pointer (some ⟨g, kk, none⟩) := congrFun hvals 4
   have e5 : vals 5 = .int .i64 y := congrFun hvals 5
   have e6 : vals 6 = .slice (some ⟨g3, 0, none⟩) n c3 := congrFun hvals 6
   have e7 : vals 7 = .int .i64 ↑kk := congrFun hvals 7
   have e8 : vals 8 = .pointer (some ⟨g3, kk, none⟩) := congrFun hvals 8
   have e9 : vals 9 = .int .i64 z := congrFun hvals 9
   have e10 : vals 10 = .int .i64 (max y z) := congrFun hvals 10
   have e11 : vals 11 = .pointer (some ⟨g, kk, none⟩) := congrFun hvals 11
   have e12 : vals 12 = undef := congrFun hvals 12
   clear hvals
   obtain ⟨dep, hdep⟩ : ∃ f : Nat → List Nat, f = (fun j => match j with | 4 => [2, 3] | 5 => [4] | 8 => [6, 7] | 9 => [8] | 10 => [5, 9] | 11 => [0, 1] | 12 => [11, 10] | _ => []) := ⟨_, rfl⟩
   have d0 : dep 0 = [] := congrFun hdep 0
   have d1 : dep 1 = [] := congrFun hdep 1
   have d2 : dep 2 = [] := congrFun hdep 2
   have d3 : dep 3 = [] := congrFun hdep 3
   have d4 : dep 4 = [2, 3] := congrFun hdep 4
   have d5 : dep 5 = [4] := congrFun hdep 5
   have d6 : dep 6 = [] := congrFun hdep 6
   have d7 : dep 7 = [] := congrFun hdep 7
   have d8 : dep 8 = [6, 7] := congrFun hdep 8
   have d9 : dep 9 = [8] := congrFun hdep 9
   have d10 : dep 10 = [5, 9] := congrFun hdep 10
   have d11 : dep 11 = [0, 1] := congrFun hdep 11
   have d12 : dep 12 = [11, 10] := congrFun hdep 12
   clear hdep
   have HLD : LastD 13 dep := by
    intro L hc k12
    have k11 : L 11 := hc 12 k12 11 (by rw [d12]; simp)
    have k10 : L 10 := hc 12 k12 10 (by rw [d12]; simp)
    have k9 : L 9 := hc 10 k10 9 (by rw [d10]; simp)
    have k8 : L 8 := hc 9 k9 8 (by rw [d9]; simp)
    have k7 : L 7 := hc 8 k8 7 (by rw [d8]; simp)
    have k6 : L 6 := hc 8 k8 6 (by rw [d8]; simp)
    have k5 : L 5 := hc 10 k10 5 (by rw [d10]; simp)
    have k4 : L 4 := hc 5 k5 4 (by rw [d5]; simp)
    have k3 : L 3 := hc 4 k4 3 (by rw [d4]; simp)
    have k2 : L 2 := hc 4 k4 2 (by rw [d4]; simp)
    have k1 : L 1 := hc 11 k11 1 (by rw [d11]; simp)
    have k0 : L 0 := hc 11 k11 0 (by rw [d11]; simp)
    intro j hj
    obtain rfl | rfl | rfl | rfl | rfl | rfl | rfl | rfl | rfl | rfl | rfl | rfl | rfl : j = 0 ∨ j = 1 ∨ j = 2 ∨ j = 3 ∨ j = 4 ∨ j = 5 ∨ j = 6 ∨ j = 7 ∨ j = 8 ∨ j = 9 ∨ j = 10 ∨ j = 11 ∨ j = 12 := by omega
    all_goals assumption
   refine wp_region_inv (fun l a W => ∃ vs : Nat → Value, a = ⟨List.toArray (.agg #[.slice A t.cols.length c, .int .i64 t.head, .int .i64 t.foot, .slice A' t.rows.length c', .int .i64 t.gap] :: .agg #[.int .i64 gr, .int .i64 ↑n, .slice GA cells.length gc] :: .pointer (some ⟨w.heap.size, 0, none⟩) :: .pointer (some ⟨w.heap.size + 1, 0, none⟩) :: .slice none 0 0 :: .slice (some ⟨g, 0, none⟩) n cc :: .slice (some ⟨g3, 0, none⟩) n c3 :: .int .i64 ↑kk :: u8 :: u9 :: u10 :: u11 :: u12 :: .agg #[.slice A t.cols.length c, .int .i64 t.head, .int .i64 t.foot, .slice A' t.rows.length c', .int .i64 t.gap] :: .agg #[.int .i64 gr, .int .i64 ↑n, .slice GA cells.length gc] :: .slice (some ⟨g3, 0, none⟩) n c3 :: .int .i64 ↑kk :: .slice (some ⟨g, 0, none⟩) n cc :: .int .i64 ↑n :: .bool true :: u20 :: u21 :: vs 0 :: vs 1 :: vs 2 :: vs 3 :: vs 4 :: vs 5 :: vs 6 :: vs 7 :: vs 8 :: vs 9 :: vs 10 :: vs 11 :: undef :: []), []⟩ ∧ BMidS vals 13 dep (wr.drew) ⟨g, kk, none⟩ (.int .i64 (max y z)) l vs W) (by kernel_rfl) ?top ?start ?step ?fin
   case top =>
    clear e0 e1 e2 e3 e4 e5 e6 e7 e8 e9 e10 e11 e12 d0 d1 d2 d3 d4 d5 d6 d7 d8 d9 d10 d11 d12
    intro j o ho e he
    have hj : j < 13 := (Array.getElem?_eq_some_iff.1 ho).1
    have hA : (o.after.all fun e => decide (e.on < j)) = true := by
     obtain rfl | rfl | rfl | rfl | rfl | rfl | rfl | rfl | rfl | rfl | rfl | rfl | rfl : j = 0 ∨ j = 1 ∨ j = 2 ∨ j = 3 ∨ j = 4 ∨ j = 5 ∨ j = 6 ∨ j = 7 ∨ j = 8 ∨ j = 9 ∨ j = 10 ∨ j = 11 ∨ j = 12 := by omega
     all_goals
      simp only [List.getElem?_toArray, List.getElem?_cons_zero, List.getElem?_cons_succ, Option.some.injEq] at ho
      subst ho
      first | decide | kernel_rfl | simp
    simpa using Array.all_eq_true'.1 hA e he
   case start => exact ⟨(fun j => match j with | 0 => u22 | 1 => u23 | 2 => u24 | 3 => u25 | 4 => u26 | 5 => u27 | 6 => u28 | 7 => u29 | 8 => u30 | 9 => u31 | 10 => u32 | 11 => u33 | _ => undef), rfl, BMidS.start (by decide)⟩
   case step =>
    rintro l a W i o ho hl hpre hsz ⟨vs, rfl, hM0⟩ K hK
    have hi : i < 13 := (Array.getElem?_eq_some_iff.1 ho).1
    have hM := hM0.open HLD hi hl
    obtain rfl | rfl | rfl | rfl | rfl | rfl | rfl | rfl | rfl | rfl | rfl | rfl | rfl : i = 0 ∨ i = 1 ∨ i = 2 ∨ i = 3 ∨ i = 4 ∨ i = 5 ∨ i = 6 ∨ i = 7 ∨ i = 8 ∨ i = 9 ∨ i = 10 ∨ i = 11 ∨ i = 12 := by omega
    ·
     simp only [List.getElem?_toArray, List.getElem?_cons_zero, List.getElem?_cons_succ, Option.some.injEq] at ho
     subst ho
     have hdp : ∀ e ∈ dep 0, l.getD e false = true := by rw [d0]; exact dep_nil
     have e := e0
     clear e0 e1 e2 e3 e4 e5 e6 e7 e8 e9 e10 e11 e12 d0 d1 d2 d3 d4 d5 d6 d7 d8 d9 d10 d11 d12
     go_simp
     exact hK.out _ _ ⟨updV vs 0 (.slice (some ⟨g, 0, none⟩) n cc), rfl, hM0.still HLD 0 (by decide) hl _ e.symm hdp⟩
    ·
     simp only [List.getElem?_toArray, List.getElem?_cons_zero, List.getElem?_cons_succ, Option.some.injEq] at ho
     subst ho
     have hdp : ∀ e ∈ dep 1, l.getD e false = true := by rw [d1]; exact dep_nil
     have e := e1
     clear e0 e1 e2 e3 e4 e5 e6 e7 e8 e9 e10 e11 e12 d0 d1 d2 d3 d4 d5 d6 d7 d8 d9 d10 d11 d12
     go_simp
     exact hK.out _ _ ⟨updV vs 1 (.int .i64 ↑kk), rfl, hM0.still HLD 1 (by decide) hl _ e.symm hdp⟩
    ·
     simp only [List.getElem?_toArray, List.getElem?_cons_zero, List.getElem?_cons_succ, Option.some.injEq] at ho
     subst ho
     have hdp : ∀ e ∈ dep 2, l.getD e false = true := by rw [d2]; exact dep_nil
     have e := e2
     clear e0 e1 e2 e3 e4 e5 e6 e7 e8 e9 e10 e11 e12 d0 d1 d2 d3 d4 d5 d6 d7 d8 d9 d10 d11 d12
     go_simp
     exact hK.out _ _ ⟨updV vs 2 (.slice (some ⟨g, 0, none⟩) n cc), rfl, hM0.still HLD 2 (by decide) hl _ e.symm hdp⟩
    ·
     simp only [List.getElem?_toArray, List.getElem?_cons_zero, List.getElem?_cons_succ, Option.some.injEq] at ho
     subst ho
     have hdp : ∀ e ∈ dep 3, l.getD e false = true := by rw [d3]; exact dep_nil
     have e := e3
     clear e0 e1 e2 e3 e4 e5 e6 e7 e8 e9 e10 e11 e12 d0 d1 d2 d3 d4 d5 d6 d7 d8 d9 d10 d11 d12
     go_simp
     exact hK.out _ _ ⟨updV vs 3 (.int .i64 ↑kk), rfl, hM0.still HLD 3 (by decide) hl _ e.symm hdp⟩
    ·
     simp only [List.getElem?_toArray, List.getElem?_cons_zero, List.getElem?_cons_succ, Option.some.injEq] at ho
     subst ho
     have v2 : vs 2 = .slice (some ⟨g, 0, none⟩) n cc := (hM.held 2 (hpre ⟨2, .data⟩ (by simp) rfl)).trans e2
     have v3 : vs 3 = .int .i64 ↑kk := (hM.held 3 (hpre ⟨3, .data⟩ (by simp) rfl)).trans e3
     have hdp : ∀ e ∈ dep 4, l.getD e false = true := by rw [d4]; exact (dep_cons (hpre ⟨2, .data⟩ (by simp) rfl) (dep_cons (hpre ⟨3, .data⟩ (by simp) rfl) dep_nil))
     have e := e4
     clear e0 e1 e2 e3 e4 e5 e6 e7 e8 e9 e10 e11 e12 d0 d1 d2 d3 d4 d5 d6 d7 d8 d9 d10 d11 d12
     rw [v2, v3]
     go_simp
     exact hK.out _ _ ⟨updV vs 4 (.pointer (some ⟨g, kk, none⟩)), by simp [updV, v2, v3], hM0.still HLD 4 (by decide) hl _ e.symm hdp⟩
    ·
     simp only [List.getElem?_toArray, List.getElem?_cons_zero, List.getElem?_cons_succ, Option.some.injEq] at ho
     subst ho
     have v4 : vs 4 = .pointer (some ⟨g, kk, none⟩) := (hM.held 4 (hpre ⟨4, .data⟩ (by simp) rfl)).trans e4
     have hdp : ∀ e ∈ dep 5, l.getD e false = true := by rw [d5]; exact (dep_cons (hpre ⟨4, .data⟩ (by simp) rfl) dep_nil)
     have e := e5
     clear e0 e1 e2 e3 e4 e5 e6 e7 e8 e9 e10 e11 e12 d0 d1 d2 d3 d4 d5 d6 d7 d8 d9 d10 d11 d12
     have x0 := keepW hM.below cm
     rw [v4]
     go_simp
     exact hK.out _ _ ⟨updV vs 5 (.int .i64 y), by simp [updV, v4], hM0.still HLD 5 (by decide) hl _ e.symm hdp⟩
    ·
     simp only [List.getElem?_toArray, List.getElem?_cons_zero, List.getElem?_cons_succ, Option.some.injEq] at ho
     subst ho
     have hdp : ∀ e ∈ dep 6, l.getD e false = true := by rw [d6]; exact dep_nil
     have e := e6
     clear e0 e1 e2 e3 e4 e5 e6 e7 e8 e9 e10 e11 e12 d0 d1 d2 d3 d4 d5 d6 d7 d8 d9 d10 d11 d12
     go_simp
     exact hK.out _ _ ⟨updV vs 6 (.slice (some ⟨g3, 0, none⟩) n c3), rfl, hM0.still HLD 6 (by decide) hl _ e.symm hdp⟩
    ·
     simp only [List.getElem?_toArray, List.getElem?_cons_zero, List.getElem?_cons_succ, Option.some.injEq] at ho
     subst ho
     have hdp : ∀ e ∈ dep 7, l.getD e false = true := by rw [d7]; exact dep_nil
     have e := e7
     clear e0 e1 e2 e3 e4 e5 e6 e7 e8 e9 e10 e11 e12 d0 d1 d2 d3 d4 d5 d6 d7 d8 d9 d10 d11 d12
     go_simp
     exact hK.out _ _ ⟨updV vs 7 (.int .i64 ↑kk), rfl, hM0.still HLD 7 (by decide) hl _ e.symm hdp⟩
    ·
     simp only [List.getElem?_toArray, List.getElem?_cons_zero, List.getElem?_cons_succ, Option.some.injEq] at ho
     subst ho
     have v6 : vs 6 = .slice (some ⟨g3, 0, none⟩) n c3 := (hM.held 6 (hpre ⟨6, .data⟩ (by simp) rfl)).trans e6
     have v7 : vs 7 = .int .i64 ↑kk := (hM.held 7 (hpre ⟨7, .data⟩ (by simp) rfl)).trans e7
     have hdp : ∀ e ∈ dep 8, l.getD e false = true := by rw [d8]; exact (dep_cons (hpre ⟨6, .data⟩ (by simp) rfl) (dep_cons (hpre ⟨7, .data⟩ (by simp) rfl) dep_nil))
     have e := e8
     clear e0 e1 e2 e3 e4 e5 e6 e7 e8 e9 e10 e11 e12 d0 d1 d2 d3 d4 d5 d6 d7 d8 d9 d10 d11 d12
     rw [v6, v7]
     go_simp
     exact hK.out _ _ ⟨updV vs 8 (.pointer (some ⟨g3, kk, none⟩)), by simp [updV, v6, v7], hM0.still HLD 8 (by decide) hl _ e.symm hdp⟩
    ·
     simp only [List.getElem?_toArray, List.getElem?_cons_zero, List.getElem?_cons_succ, Option.some.injEq] at ho
     subst ho
     have v8 : vs 8 = .pointer (some ⟨g3, kk, none⟩) := (hM.held 8 (hpre ⟨8, .data⟩ (by simp) rfl)).trans e8
     have hdp : ∀ e ∈ dep 9, l.getD e false = true := by rw [d9]; exact (dep_cons (hpre ⟨8, .data⟩ (by simp) rfl) dep_nil)
     have e := e9
     clear e0 e1 e2 e3 e4 e5 e6 e7 e8 e9 e10 e11 e12 d0 d1 d2 d3 d4 d5 d6 d7 d8 d9 d10 d11 d12
     have x0 := keepW hM.below cy
     rw [v8]
     go_simp
     exact hK.out _ _ ⟨updV vs 9 (.int .i64 z), by simp [updV, v8], hM0.still HLD 9 (by decide) hl _ e.symm hdp⟩
    ·
     simp only [List.getElem?_toArray, List.getElem?_cons_zero, List.getElem?_cons_succ, Option.some.injEq] at ho
     subst ho
     have v5 : vs 5 = .int .i64 y := (hM.held 5 (hpre ⟨5, .data⟩ (by simp) rfl)).trans e5
     have v9 : vs 9 = .int .i64 z := (hM.held 9 (hpre ⟨9, .data⟩ (by simp) rfl)).trans e9
     have hdp : ∀ e ∈ dep 10, l.getD e false = true := by rw [d10]; exact (dep_cons (hpre ⟨5, .data⟩ (by simp) rfl) (dep_cons (hpre ⟨9, .data⟩ (by simp) rfl) dep_nil))
     have e := e10
     clear e0 e1 e2 e3 e4 e5 e6 e7 e8 e9 e10 e11 e12 d0 d1 d2 d3 d4 d5 d6 d7 d8 d9 d10 d11 d12
     rw [v5, v9]
     go_simp
     refine (spec_l1Max y z _).mono ?_
     rintro e5 W5 ⟨rfl, hq⟩
     exact hK.out _ _ ⟨updV vs 10 (.int .i64 (max y z)), by simp [updV, v5, v9], hM0.next HLD 10 (by decide) hl _ e.symm hdp (by rw [hq]; exact brefl _)⟩
    ·
     simp only [List.getElem?_toArray, List.getElem?_cons_zero, List.getElem?_cons_succ, Option.some.injEq] at ho
     subst ho
     have v0 : vs 0 = .slice (some ⟨g, 0, none⟩) n cc := (hM.held 0 (hpre ⟨0, .data⟩ (by simp) rfl)).trans e0
     have v1 : vs 1 = .int .i64 ↑kk := (hM.held 1 (hpre ⟨1, .data⟩ (by simp) rfl)).trans e1
     have hdp : ∀ e ∈ dep 11, l.getD e false = true := by rw [d11]; exact (dep_cons (hpre ⟨0, .data⟩ (by simp) rfl) (dep_cons (hpre ⟨1, .data⟩ (by simp) rfl) dep_nil))
     have e := e11
     clear e0 e1 e2 e3 e4 e5 e6 e7 e8 e9 e10 e11 e12 d0 d1 d2 d3 d4 d5 d6 d7 d8 d9 d10 d11 d12
     rw [v0, v1]
     go_simp
     exact hK.out _ _ ⟨updV vs 11 (.pointer (some ⟨g, kk, none⟩)), by simp [updV, v0, v1], hM0.still HLD 11 (by decide) hl _ e.symm hdp⟩
    ·
     simp only [List.getElem?_toArray, List.getElem?_cons_zero, List.getElem?_cons_succ, Option.some.injEq] at ho
     subst ho
     have v11 : vs 11 = .pointer (some ⟨g, kk, none⟩) := (hM.held 11 (hpre ⟨11, .data⟩ (by simp) rfl)).trans e11
     have v10 : vs 10 = .int .i64 (max y z) := (hM.held 10 (hpre ⟨10, .data⟩ (by simp) rfl)).trans e10
     have hdp : ∀ e ∈ dep 12, l.getD e false = true := by rw [d12]; exact (dep_cons (hpre ⟨11, .data⟩ (by simp) rfl) (dep_cons (hpre ⟨10, .data⟩ (by simp) rfl) dep_nil))
     have e := e12
     clear e0 e1 e2 e3 e4 e5 e6 e7 e8 e9 e10 e11 e12 d0 d1 d2 d3 d4 d5 d6 d7 d8 d9 d10 d11 d12
     have fm := HFZ.out _ hM.below
     have cw := keepW hM.below cm
     rw [v11, v10]
     go_simp
     exact hK.out _ _ ⟨updV vs 12 (undef), by simp [updV, v11, v10], hM0.last HLD 12 rfl hl _ e.symm hdp⟩
   case fin =>
    rintro l a W6 hall ⟨vs6, rfl, hM0⟩
    obtain ⟨W61, hM, rfl⟩ := hM0.fin (by decide) hall
    have HBW := hide hM.below
    clear e0 e1 e2 e3 e4 e5 e6 e7 e8 e9 e10 e11 e12 d0 d1 d2 d3 d4 d5 d6 d7 d8 d9 d10 d11 d12 HLD
    go_wp2_with fail
    go_roundg (n - (kk + 1))
    case measure => omega
    case rel =>
     exact ⟨kk + 1, by omega, by omega, by go_num, (show Aside _ from bset (step HBD.out HBW.out) (by show w.heap.size ≤ g; omega) _), (show Aside _ from (HSS.out _ HBW.out).2), (show Aside _ from (HSS.out _ HBW.out).1)⟩
  ·
   have hltz : ¬ (kk : Int) < (n : Int) := by omega
   have HK := hide (show fillM (overL Y) kk X = wishL t cells n by
    rw [show kk = X.length by rw [HL.out]; omega, fillM_full, HR.out])
   go_wp2_with fail
   go_ret
   exact ⟨_, rfl, by rw [← HK.out]; exact HM.out, HB.out⟩
end Go.Proofs.YtpfagdmmhgcmnaaGreatDoor

namespace Go.Proofs.YtpfagdmmhgcmnaaGreatDoor
open Go.RowKit
structure ColsVar (w : World) (base n : Nat) (X Y : List Int) (B1 B2 g cc g3 c3 : Nat) (U : World) : Prop where
 v1 : U.cell? ⟨B1, 0, none⟩ = some (.slice (some ⟨g, 0, none⟩) n cc)
 v2 : U.cell? ⟨B2, 0, none⟩ = some (.slice (some ⟨g3, 0, none⟩) n c3)
 o1 : IOwn U base (.slice (some ⟨g, 0, none⟩) n cc) X
 o2 : IOwn U base (.slice (some ⟨g3, 0, none⟩) n c3) Y
 lo : base ≤ B1 ∧ base ≤ B2 ∧ base ≤ g ∧ base ≤ g3
 ne : B1 ≠ g ∧ B2 ≠ g ∧ g ≠ g3
theorem ColsVar.below {w : World} {base n : Nat} {X Y : List Int} {B1 B2 g cc g3 c3 : Nat} {U U' : World} (h : ColsVar w base n X Y B1 B2 g cc g3 c3 U) (hb : Below U.heap.size U U') : ColsVar w base n X Y B1 B2 g cc g3 c3 U' :=
 ⟨keepW hb h.v1, keepW hb h.v2, h.o1.below hb, h.o2.below hb, h.lo, h.ne⟩
theorem leastL_in {t : Tbl} (h : tblOk t = true) {cells : List GCell} {n : Nat} (hg : 0 ≤ t.gap) (hcell : ∀ x ∈ cells, CellIn n (fun c => leastT (textOf t c)) x) : (leastL t cells n).length = n ∧ ∀ x ∈ leastL t cells n, 0 ≤ x ∧ x ≤ 60 := by
 obtain ⟨⟨m1, m2⟩, _⟩ := made_spec hg hcell
 unfold leastL
 refine ⟨by rw [List.length_mapIdx]; exact m1, fun x hx => ?_⟩
 obtain ⟨j, hj, rfl⟩ := List.getElem_of_mem hx
 rw [List.getElem_mapIdx]
 have h1 := m2 _ (List.getElem_mem (show j < (made t.gap (fun c => leastT (textOf t c)) cells n).length by simpa using hj))
 have h2 := saidN_in h j _ h1
 omega
theorem wishL_in {t : Tbl} (h : tblOk t = true) {cells : List GCell} {n : Nat} (hg : 0 ≤ t.gap) (hcell : ∀ x ∈ cells, CellIn n (fun c => leastT (textOf t c)) x) (hcell2 : ∀ x ∈ cells, CellIn n (fun c => wishT (textOf t c)) x) : (wishL t cells n).length = n ∧ ∀ x ∈ wishL t cells n, 0 ≤ x ∧ x ≤ 60 := by
 obtain ⟨⟨m1, m2⟩, _⟩ := made_spec hg hcell2
 obtain ⟨l1, l2⟩ := leastL_in h hg hcell
 unfold wishL
 refine ⟨by rw [List.length_mapIdx]; exact m1, fun x hx => ?_⟩
 obtain ⟨j, hj, rfl⟩ := List.getElem_of_mem hx
 rw [List.getElem_mapIdx]
 have hjm : j < (made t.gap (fun c => wishT (textOf t c)) cells n).length := by simpa using hj
 have h1 := m2 _ (List.getElem_mem hjm)
 have h2 := int_at l2 j (by omega)
 unfold overL
 omega
end Go.Proofs.YtpfagdmmhgcmnaaGreatDoor

namespace Go.Proofs.YtpfagdmmhgcmnaaGreatDoor
open Go.RowKit
theorem colWish_two {t : Tbl} {k : Nat} (hy : GoodRows t k) : colWishL 90 t = colWishL 400 t := by
 unfold colWishL
 split
 ·
  rename_i h
  rw [grid_one h hy]
 ·
  rfl
end Go.Proofs.YtpfagdmmhgcmnaaGreatDoor

namespace Go.Proofs.YtpfagdmmhgcmnaaGreatDoor
open Go.RowKit
def oneC (c : TCell) : TCell := if 1 < c.c then { c with c := 1 } else c
def oneR (r : TRow) : TRow := ⟨r.cs.map oneC, r.wh⟩
def oneT (t : Tbl) : Tbl := { t with rows := t.rows.map oneR }
theorem oneC_keeps (c : TCell) : (oneC c).t = c.t ∧ (oneC c).r = c.r ∧ (oneC c).c ≤ 1 := by
 unfold oneC
 split
 ·
  exact ⟨rfl, rfl, Int.le_refl _⟩
 ·
  exact ⟨rfl, rfl, by omega⟩
theorem oneT_good {t : Tbl} {k : Nat} (h : GoodRows t k) : GoodRows (oneT t) k := by
 intro j hj
 have hj' : j < t.rows.length := by simpa [oneT] using hj
 have e : (oneT t).rows[j] = oneR t.rows[j] := by simp [oneT]
 rw [e]
 refine ⟨by simpa [oneR] using (h j hj').1, fun x hx => ?_⟩
 obtain ⟨y, hy, rfl⟩ := List.mem_map.1 hx
 rw [(oneC_keeps y).2.1]
 exact (h j hj').2 y hy
theorem oneT_size {t : Tbl} (h : ∀ r ∈ t.rows, ∀ c ∈ r.cs, c.t.size ≤ 1048576) : ∀ r ∈ (oneT t).rows, ∀ c ∈ r.cs, c.t.size ≤ 1048576 := by
 intro r hr c hc
 obtain ⟨r', hr', rfl⟩ := List.mem_map.1 hr
 obtain ⟨c', hc', rfl⟩ := List.mem_map.1 hc
 rw [(oneC_keeps c').1]
 exact h r' hr' c' hc'
theorem oneT_one (t : Tbl) : ∀ r ∈ (oneT t).rows, ∀ c ∈ r.cs, c.c ≤ 1 := by
 intro r hr c hc
 obtain ⟨r', hr', rfl⟩ := List.mem_map.1 hr
 obtain ⟨c', hc', rfl⟩ := List.mem_map.1 hc
 exact (oneC_keeps c').2.2
theorem TabM.oneNext {W : World} {base T n c k q : Nat} {A : Option Addr} {vc : Value} {t : Tbl} {R : List TRow} {cs : List TCell} {wh : Bool} (h : TabM W base T vc (.slice A n c) t (R.set k ⟨mapTo oneC q cs, wh⟩)) (hk : k < R.length) (hq : q < cs.length) :
  ∃ g gc cj, A = some ⟨g, 0, none⟩ ∧ W.cell? ⟨g, k * 2, none⟩ = some (.slice (some ⟨gc, 0, none⟩) cs.length cj) ∧ W.cell? ⟨gc, q * 11 + 1, none⟩ = some (.int .i64 cs[q].c) ∧ (∀ i, W.frozen? ⟨gc, i, none⟩ = false) ∧ (base ≤ gc ∧ gc < W.heap.size) ∧ gc ≠ T ∧ gc ≠ g ∧
   (1 < cs[q].c → TabM (W.setCell ⟨gc, q * 11 + 1, none⟩ (.int .i64 1)) base T vc (.slice A n c) t (R.set k ⟨mapTo oneC (q + 1) cs, wh⟩)) ∧ (¬ 1 < cs[q].c → TabM W base T vc (.slice A n c) t (R.set k ⟨mapTo oneC (q + 1) cs, wh⟩)) := by
 have hk' : k < (R.set k ⟨mapTo oneC q cs, wh⟩).length := by simpa using hk
 have e : (R.set k ⟨mapTo oneC q cs, wh⟩)[k] = ⟨mapTo oneC q cs, wh⟩ := by simp
 have hq' : q < (R.set k ⟨mapTo oneC q cs, wh⟩)[k].cs.length := by rw [e]; show q < (mapTo oneC q cs).length; rw [mapTo_length]; exact hq
 obtain ⟨g, gc, cj, eA, h1, ⟨h2, _⟩, h3, h4, h5, h6, h7⟩ := h.cols1 hk' hq'
 have eg : (mapTo oneC q cs)[q]'(by rw [mapTo_length]; exact hq) = cs[q] := mapTo_get _ _ _ hq _
 simp only [e] at h1 h2 h7
 rw [mapTo_length] at h1
 rw [eg] at h2
 have hd : (mapTo oneC q cs).getD q default = cs[q] := by
  rw [List.getD_eq_getElem?_getD, List.getElem?_eq_getElem (by rw [mapTo_length]; exact hq), eg]; rfl
 have hset := mapTo_set oneC q cs hq
 refine ⟨g, gc, cj, eA, h1, h2, h3, h4, h5, h6, fun hc => ?_, fun hc => ?_⟩
 ·
  have := h7 1
  have e1 : oneC cs[q] = { cs[q] with c := 1 } := by unfold oneC; rw [if_pos hc]
  rw [hd, ← e1, hset, List.set_set] at this
  exact this
 ·
  have e1 : oneC cs[q] = cs[q] := by unfold oneC; rw [if_neg hc]
  rw [e1] at hset
  rw [← hset, ← eg, List.set_getElem_self]
  exact h
theorem mostI_max (need : GCell → Int) (cells : List GCell) : ∀ (is : List Int) (a b : Int), mostI need cells is (max a b) = max a (mostI need cells is b)
 | [], a, b => rfl
 | i :: is, a, b => by
  show mostI need cells is (max (max a b) (need (cells.getD i.toNat default))) = max a (mostI need cells is (max b (need (cells.getD i.toNat default))))
  rw [← mostI_max need cells is a, Int.max_assoc]
theorem mostI_snoc (need : GCell → Int) (cells : List GCell) (is : List Int) (i a : Int) : mostI need cells (is ++ [i]) a = max (mostI need cells is a) (need (cells.getD i.toNat default)) := by
 unfold mostI; rw [List.foldl_append]; rfl
theorem colTight_ok {t : Tbl} (h : tblOk t = true) {k : Nat} (hy : GoodRows t k) (h1 : ∀ r ∈ t.rows, ∀ c ∈ r.cs, c.c ≤ 1) :
  ∃ n : Nat, (gridL 400 t).2 = n ∧ (1 ≤ n ∧ n ≤ 90) ∧ (colLeastL 400 t).length = n ∧ (colWishL 400 t).length = n ∧ ∀ j : Nat, j < n →
   (colLeastL 400 t).getD j 0 = mostI (fun c => leastT (textOf t c)) (gridL 400 t).1 (colL (gridL 400 t).1 t.rows.length j) (if (saidOf t j).k = 1 then (saidOf t j).n else 0) ∧
   (colWishL 400 t).getD j 0 = max (mostI (fun c => leastT (textOf t c)) (gridL 400 t).1 (colL (gridL 400 t).1 t.rows.length j) (if (saidOf t j).k = 1 then (saidOf t j).n else 0)) (mostI (fun c => wishT (textOf t c)) (gridL 400 t).1 (colL (gridL 400 t).1 t.rows.length j) 0) := by
 obtain ⟨n, hn, hn1, hcell, hcl⟩ := grid_need h hy 400 leastT_in
 obtain ⟨n', hn', _, hcell2, _⟩ := grid_need h hy 400 wishT_in
 have hnn : n = n' := by omega
 subst hnn
 have hg := (tblOk_parts h).2.2.1
 have e1 : colLeastL 400 t = leastL t (gridL 400 t).1 n := by unfold colLeastL; rw [if_pos h, hn]; rfl
 have e2 : colWishL 400 t = wishL t (gridL 400 t).1 n := by unfold colWishL; rw [if_pos h, hn]; rfl
 obtain ⟨l1, l2⟩ := leastL_in h hg.1 (fun x hx => (hcell x hx).1)
 obtain ⟨l3, _⟩ := wishL_in h hg.1 (fun x hx => (hcell x hx).1) (fun x hx => (hcell2 x hx).1)
 have hA := grid_apart h hy (m := 400) (by decide)
 have hI := grid_in h 400
 have hone : ∀ c ∈ (gridL 400 t).1, c.cols = 1 := by
  intro c hc
  obtain ⟨⟨⟨a1, a2⟩, a3, a4⟩, a5⟩ := grid_at 400 t c hc
  have hr : c.row.toNat < t.rows.length := by omega
  have e3 : t.rows.getD c.row.toNat default = t.rows[c.row.toNat] := by rw [List.getD_eq_getElem?_getD, List.getElem?_eq_getElem hr]; rfl
  have hi : c.inn.toNat < t.rows[c.row.toNat].cs.length := by rw [e3] at a4; omega
  have e4 : cellOfT t c = t.rows[c.row.toNat].cs[c.inn.toNat] := by unfold cellOfT; rw [e3, List.getD_eq_getElem?_getD, List.getElem?_eq_getElem hi]; rfl
  have := h1 _ (List.getElem_mem hr) _ (List.getElem_mem hi)
  have := (hI c hc).cols
  rw [e4] at a5
  omega
 have m1 := made_one hg.1 (fun x hx => ⟨(hcell x hx).1, hone x hx⟩)
 have m2 := made_one hg.1 (fun x hx => ⟨(hcell2 x hx).1, hone x hx⟩)
 obtain ⟨⟨p1, _⟩, _⟩ := made_spec hg.1 (fun x hx => (hcell x hx).1)
 obtain ⟨⟨p2, _⟩, _⟩ := made_spec hg.1 (fun x hx => (hcell2 x hx).1)
 refine ⟨n, hn, hn1, by rw [e1]; exact l1, by rw [e2]; exact l3, fun j hj => ?_⟩
 have k1 : (colLeastL 400 t).getD j 0 = mostI (fun c => leastT (textOf t c)) (gridL 400 t).1 (colL (gridL 400 t).1 t.rows.length j) (if (saidOf t j).k = 1 then (saidOf t j).n else 0) := by
  rw [e1]
  unfold leastL
  rw [mapIdx_getD _ _ _ (by omega), m1 j hj, ← most_eq (nr := t.rows.length) (nc := (gridL 400 t).2) (fun c => leastT (textOf t c)) hA hI hone 0]
  unfold saidN
  split
  ·
   rename_i hk
   have hs := said_fixed h j hk
   have : (saidOf t j).n = max (saidOf t j).n 0 := by omega
   rw [this, mostI_max, Int.max_comm]
   omega
  ·
   rfl
 refine ⟨k1, ?_⟩
 rw [← k1, e2]
 unfold wishL
 rw [mapIdx_getD _ _ _ (by omega), m2 j hj, ← most_eq (nr := t.rows.length) (nc := (gridL 400 t).2) (fun c => wishT (textOf t c)) hA hI hone 0, ← e1]
 unfold overL
 exact Int.max_comm ..
end Go.Proofs.YtpfagdmmhgcmnaaGreatDoor

namespace Go.Proofs.YtpfagdmmhgcmnaaGreatDoor
open Go.RowKit
set_option maxRecDepth 100000 in
set_option maxHeartbeats 4000000 in
theorem spec_ColLeast (t : Tbl) (A : Option Addr) (c : Nat) (A' : Option Addr) (c' : Nat) (w : World) (hc : Rd colR w A t.cols) (hr : Rd rowR w A' t.rows)
  {k : Nat} (hy : ∀ (j : Nat) (hj : j < t.rows.length), t.rows[j].cs.length ≤ (if j = k then 5 else 4) ∧ ∀ x ∈ t.rows[j].cs, x.r ≠ 4) :
  Calls Tryz.prog 18 #[.agg #[.slice A t.cols.length c, .int .i64 t.head, .int .i64 t.foot, .slice A' t.rows.length c', .int .i64 t.gap]] w fun e w' => ∃ v, e = .returned v ∧ IOwn w' w.heap.size v (colLeastL 90 t) ∧ Below w.heap.size w w' := by
 have hT := fun (W : World) (h : Below w.heap.size w W) => spec_TblOk t A c A' c' W (hc.below h) (hr.below h)
 cases hok : tblOk t with
 | false =>
  rw [hok] at hT
  have hres : colLeastL 90 t = [] := by unfold colLeastL; rw [hok]; rfl
  rw [hres]
  clear hres hok hc hr hy
  go_enter Tryz.func18, Tryz.ntmps18
  go_wp2_with fail
  refine (hT _ (balloc (brefl _) _)).mono ?_
  rintro e w1 ⟨rfl, hb⟩
  go_wp2_with fail
  go_ret
  have m1 : IOwn (w1.alloc (.cells #[] 3)) w.heap.size (.slice (some ⟨w1.heap.size, 0, none⟩) 0 0) [] := World.ownsRow_made w1 #[] 0 (by have := hb.size; simp at this; omega) (Nat.zero_le _) (by simp)
  exact ⟨_, rfl, m1, balloc (step (balloc (brefl _) _) hb) _⟩
 | true =>
  have hG := fun (W : World) (h : Below w.heap.size w W) => spec_l3Of t A c A' c' W hok (hc.below h) (hr.below h)
  rw [hok] at hT
  obtain ⟨n, hn, hn1, hcell, hcl⟩ := grid_need hok hy 90 leastT_in
  have hle := grid_cols_le 90 t
  have hsm : Hid (∀ x ∈ (gridL 90 t).1, GSm x) := (GIn.rows (m := 90) hok).sm (by omega)
  have hres : Hid (colLeastL 90 t = leastL t (gridL 90 t).1 n) := by show colLeastL 90 t = _; unfold colLeastL; rw [if_pos hok, hn]; rfl
  rw [hres.out]
  rw [hn] at hG hle
  have hL := fun (W : World) (h : Below w.heap.size w W) GA gc hg => spec_l5Least t A c A' c' t.rows.length n (gridL 90 t).1 GA gc W (hc.below h) (hr.below h) hg (tblOk_parts hok).2.2.1 ⟨hn1.1, by omega⟩ hcell (by omega)
  clear hok hc hr hres hy hn hcell hcl hle
  generalize gridL 90 t = GG at hG hL hsm ⊢
  obtain ⟨GL, GN⟩ := GG
  dsimp only at hG hL hsm ⊢
  go_enter Tryz.func18, Tryz.ntmps18
  go_wp2_with fail
  refine (hT _ (balloc (brefl _) _)).mono ?_
  rintro e w1 ⟨rfl, hb⟩
  obtain ⟨c0, f0, s0⟩ := seenBk w.heap.size (by first | (simp; omega) | simp [*]) hb
  have HB := hide (step (balloc (brefl w) _) hb)
  clear hT
  go_upto_region 3 with fail
  go_region_with (first
   | (go_at_call 57; refine (hG _ ?_).mono ?_; (first | exact HB.out | exact bdrew HB.out | exact bdrew (bdrew HB.out)); rintro e w2 ⟨GA, gc, rfl, hown, hb2⟩; obtain ⟨c2, f2, s2⟩ := seenBk w.heap.size (by first | (simp; omega) | simp [*]) hb2; have hrd := grd_rd hown hsm.out)
   | (go_at_call 56; refine (hL _ ?_ GA gc ?_).mono ?_; (first | exact step HB.out hb2 | exact step (bdrew HB.out) hb2 | exact bdrew (step HB.out hb2) | exact bdrew (step (bdrew HB.out) hb2)); (first | exact hrd | exact hrd.below (bdrew (brefl _))); rintro e w3 ⟨v, rfl, hI, hb3⟩))
  all_goals
   have hsz : w.heap.size ≤ w2.heap.size := Nat.le_trans HB.out.size hb2.size
   go_wp2_with fail
   go_ret
   refine ⟨_, rfl, ?_, ?_⟩
   ·
    first
     | exact hI.base hsz
     | exact (hI.base hsz).below (bdrew (brefl _))
   ·
    (repeat' (with_reducible first | exact HB.out | refine bdrew ?_ | refine step ?_ (by with_reducible assumption)))
set_option maxRecDepth 100000 in
set_option maxHeartbeats 4000000 in
theorem spec_ColWish (t : Tbl) (A : Option Addr) (c : Nat) (A' : Option Addr) (c' : Nat) (w : World) (hc : Rd colR w A t.cols) (hr : Rd rowR w A' t.rows)
  {k : Nat} (hy : ∀ (j : Nat) (hj : j < t.rows.length), t.rows[j].cs.length ≤ (if j = k then 5 else 4) ∧ ∀ x ∈ t.rows[j].cs, x.r ≠ 4) :
  Calls Tryz.prog 27 #[.agg #[.slice A t.cols.length c, .int .i64 t.head, .int .i64 t.foot, .slice A' t.rows.length c', .int .i64 t.gap]] w fun e w' => ∃ v, e = .returned v ∧ IOwn w' w.heap.size v (colWishL 90 t) ∧ Below w.heap.size w w' := by
 have hT := fun (W : World) (h : Below w.heap.size w W) => spec_TblOk t A c A' c' W (hc.below h) (hr.below h)
 cases hok : tblOk t with
 | false =>
  rw [hok] at hT
  have hres : colWishL 90 t = [] := by unfold colWishL; rw [hok]; rfl
  rw [hres]
  clear hres hok hc hr hy
  go_enter Tryz.func27, Tryz.ntmps27
  go_wp2_with fail
  refine (hT _ (balloc (brefl _) _)).mono ?_
  rintro e w1 ⟨rfl, hb⟩
  go_wp2_with fail
  go_ret
  have m1 : IOwn (w1.alloc (.cells #[] 3)) w.heap.size (.slice (some ⟨w1.heap.size, 0, none⟩) 0 0) [] := World.ownsRow_made w1 #[] 0 (by have := hb.size; simp at this; omega) (Nat.zero_le _) (by simp)
  exact ⟨_, rfl, m1, balloc (step (balloc (brefl _) _) hb) _⟩
 | true =>
  have hG := fun (W : World) (h : Below w.heap.size w W) => spec_l3Of t A c A' c' W hok (hc.below h) (hr.below h)
  rw [hok] at hT
  obtain ⟨n, hn, hn1, hcell, hcl⟩ := grid_need hok hy 90 leastT_in
  obtain ⟨n', hn', _, hcell2, _⟩ := grid_need hok hy 90 wishT_in
  have hnn : n = n' := by omega
  subst hnn
  have hle := grid_cols_le 90 t
  have hsm : Hid (∀ x ∈ (gridL 90 t).1, GSm x) := (GIn.rows (m := 90) hok).sm (by omega)
  have hres : Hid (colWishL 90 t = wishL t (gridL 90 t).1 n) := by show colWishL 90 t = _; unfold colWishL; rw [if_pos hok, hn]; rfl
  rw [hres.out]
  rw [hn] at hG hle
  have hL := fun (W : World) (h : Below w.heap.size w W) GA gc hg => spec_l5Wish t A c A' c' t.rows.length n (gridL 90 t).1 GA gc W (hc.below h) (hr.below h) hg (tblOk_parts hok).2.2.1 ⟨hn1.1, by omega⟩ hcell hcell2 (by omega)
  clear hok hc hr hres hy hn hcell hcell2 hcl hn' hle
  generalize gridL 90 t = GG at hG hL hsm ⊢
  obtain ⟨GL, GN⟩ := GG
  dsimp only at hG hL hsm ⊢
  go_enter Tryz.func27, Tryz.ntmps27
  go_wp2_with fail
  refine (hT _ (balloc (brefl _) _)).mono ?_
  rintro e w1 ⟨rfl, hb⟩
  obtain ⟨c0, f0, s0⟩ := seenBk w.heap.size (by first | (simp; omega) | simp [*]) hb
  have HB := hide (step (balloc (brefl w) _) hb)
  clear hT
  go_upto_region 3 with fail
  go_region_with (first
   | (go_at_call 57; refine (hG _ ?_).mono ?_; (first | exact HB.out | exact bdrew HB.out | exact bdrew (bdrew HB.out)); rintro e w2 ⟨GA, gc, rfl, hown, hb2⟩; obtain ⟨c2, f2, s2⟩ := seenBk w.heap.size (by first | (simp; omega) | simp [*]) hb2; have hrd := grd_rd hown hsm.out)
   | (go_at_call 70; refine (hL _ ?_ GA gc ?_).mono ?_; (first | exact step HB.out hb2 | exact step (bdrew HB.out) hb2 | exact bdrew (step HB.out hb2) | exact bdrew (step (bdrew HB.out) hb2)); (first | exact hrd | exact hrd.below (bdrew (brefl _))); rintro e w3 ⟨v, rfl, hI, hb3⟩))
  all_goals
   have hsz : w.heap.size ≤ w2.heap.size := Nat.le_trans HB.out.size hb2.size
   go_wp2_with fail
   go_ret
   refine ⟨_, rfl, ?_, ?_⟩
   ·
    first
     | exact hI.base hsz
     | exact (hI.base hsz).below (bdrew (brefl _))
   ·
    (repeat' (with_reducible first | exact HB.out | refine bdrew ?_ | refine step ?_ (by with_reducible assumption)))
end Go.Proofs.YtpfagdmmhgcmnaaGreatDoor

namespace Go.Proofs.YtpfagdmmhgcmnaaGreatDoor
open Go.RowKit
theorem wp_append_empty {P : Program} (w : World) {α : Type} {o : Oper} {a : Act} {K : Act → World → Prop} {Q : Exit → Act → World → Prop} (s x : Operand) (t : TypeId)
  (ho : o.op = .call { callee := .builtin .append, args := #[s, x], argTypes := #[t, t] })
  (base : Nat) (e : TypeId) (i : TypeInfo) (z : Value) (size bytes : Nat) (ht : P.underlying t = some (.slice e)) (hi : P.info? e = some i) (hz : i.zero = some z)
  (hsize : i.size = size) (hby : i.bytes = bytes) (hzs : z.cells.size = size) (hsz : 0 < size)
  (g : Nat) (hs : a.eval s = .slice (some ⟨g, 0, none⟩) 0 0) (hown : w.ownsRow base e size (.slice (some ⟨g, 0, none⟩) 0 0) 0 [])
  (enc : α → List Value) (ys : List α) (vx : Value) (hx : a.eval x = vx) (hL : Lies enc w vx ys) (hl : (ys.flatMap enc).length = ys.length * size) (h1 : ∀ u ∈ ys.flatMap enc, u.oneCell' = true)
  (h63 : ys.length ≤ maxLen) (hbytes : ys.length * bytes ≤ 140737488355328) (hbase : base ≤ w.heap.size)
  (h : ∀ v' w', w'.ownsRow base e size v' ys.length (ys.flatMap enc) → Below w.heap.size w w' → K (a.put o.dst v') w') : o.wp P a w K Q := by
 have h63' : ys.length ≤ 9223372036854775807 := by unfold maxLen at h63; omega
 rcases hL with ⟨rfl, rfl⟩ | ⟨b, o', c, rfl, _, hc⟩
 ·
  have hrun := run_append_owned_none (P := P) w base t o.type e i size ht hi _ 0 [] hown
  unfold Oper.wp
  simp [execOp, ho, resolve, invoke, builtin, hs, hx, hrun, Result.andThen]
  exact h _ w hown (brefl w)
 ·
  obtain ⟨v', w', hr, h2, h3, h4⟩ := run_append_own (P := P) w base t o.type e i z size bytes ht hi hz hsize hby hzs hsz _ 0 [] hown ⟨b, o', none⟩ ys.length c (ys.flatMap enc) hl hc h1 (by simpa using h63) (by simpa using hbytes) hbase
  have hb : Below w.heap.size w w' := by
   subst hsize
   by_cases h0 : ys.length = 0
   ·
    have hnil : ys = [] := List.eq_nil_of_length_eq_zero h0
    subst hnil
    have := run_append_room_cells (P := P) (w := w) t o.type e i ht hi g 0 0 0 ⟨b, o', none⟩ 0 c [] (by simp) (fun j u hu => by simp at hu) (fun u hu => by simp at hu) (by omega) (fun j hj => by simp at hj) (fun j hj => by simp at hj)
    rw [show ([] : List α).length = 0 from rfl] at hr
    rw [hr] at this
    injection this with _ e2
    rw [e2]
    exact brefl w
   ·
    have := run_append_grow (P := P) w t o.type e i z ht hi hz ⟨g, 0, none⟩ 0 0 [] (by simp) (fun j u hu => by simp at hu) ⟨b, o', none⟩ ys.length c (ys.flatMap enc) hl hc (by omega) (by omega) (by rw [hby]; exact growslice_fits (by omega) (by simpa using hbytes))
    rw [hr] at this
    injection this with _ e2
    rw [e2]
    exact balloc (bdrew (brefl w)) _
  unfold Oper.wp execOp
  simp only [ho, resolve, invoke, builtin, Sem.run_bind, Sem.run_pure, Result.andThen_ok, List.map_toArray, List.map_cons, List.map_nil, hs, hx, hr]
  exact h v' w' (by simpa using h2) hb
end Go.Proofs.YtpfagdmmhgcmnaaGreatDoor
