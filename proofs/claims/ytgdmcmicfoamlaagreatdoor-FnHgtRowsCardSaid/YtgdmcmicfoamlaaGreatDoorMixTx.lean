import Derived.Test.YtgdmcmicfoamlaaGreatDoorMixTr
set_option linter.unusedVariables false
set_option linter.unusedSimpArgs false
set_option maxHeartbeats 40000000
set_option maxRecDepth 100000
namespace Go.Proofs.YtgdmcmicfoamlaaGreatDoor
open Go.RowKit
theorem Znh (t : Tbl) (A : Option Addr) (c : Nat) (A' : Option Addr) (c' : Nat) (gr : Int) (n : Nat) (cells : List Zl) (GA : Option Addr) (gc : Nat) (w : World) (hc : Rd Zbz w A t.cols) (hr : Rd Zbp w A' t.rows) (hG : Rd gcR w GA cells)
 (hg : 0 ≤ t.gap ∧ t.gap ≤ 3) (hn : 1 ≤ n ∧ n ≤ 1000) (hcell : ∀ x ∈ cells, Zas n (fun c => Jq (Qb t c)) x ∧ Zaq t x ∧ 0 ≤ Jq (Qb t x))
 (hcell2 : ∀ x ∈ cells, Zas n (fun c => Zac (Qb t c)) x ∧ Zaq t x ∧ 0 ≤ Zac (Qb t x)) (hcl : cells.length ≤ 1000) :
 Calls Tryz.prog 139 #[.agg #[.slice A t.cols.length c, .int .i64 t.head, .int .i64 t.foot, .slice A' t.rows.length c', .int .i64 t.gap], .agg #[.int .i64 gr, .int .i64 n, .slice GA cells.length gc]] w fun e w' => ∃ v, e = .returned v ∧ Zn w' w.heap.size v (Zcb t cells n) ∧ Below w.heap.size w w' := by
 have hZ := fun (W : World) => Zis gr n cells GA gc W (by omega)
 have hM := fun (W : World) (h : Below w.heap.size w W) (FA : Option Addr) (fc : Nat) hf => Ziv t A c A' c' gr n cells GA gc false FA fc W (hr.below h) (hG.below h) hf hg hn (by simpa using hcell2) hcl
 have hE := fun (W : World) (h : Below w.heap.size w W) => Zhi t A c A' c' gr n cells GA gc W (hc.below h) (hr.below h) (hG.below h) hg hn hcell hcl
 have hlen : (made t.gap (fun c => Zac (Qb t c)) cells n).length = n := (Zb3 hg.1 (fun x hx => (hcell2 x hx).1)).1.1
 have hlen2 : (Yf t cells n).length = n := by
  unfold Yf; rw [List.length_mapIdx]; exact (Zb3 hg.1 (fun x hx => (hcell x hx).1)).1.1
 have hw2 : Zcb t cells n = (made t.gap (fun c => Zac (Qb t c)) cells n).mapIdx (Zb8 (Yf t cells n)) := rfl
 simp only [Bool.false_eq_true, if_false] at hM
 generalize hX : made t.gap (fun c => Zac (Qb t c)) cells n = X at hM hlen hw2
 generalize hY : Yf t cells n = Y at hE hlen2 hw2
 have HL := Za hlen
 have HL2 := Za hlen2
 have HR := Za hw2
 clear hc hr hG hcell hcell2 hX hY hlen hlen2 hw2
 go_enter Tryz.func139, Tryz.ntmps139
 have HB := Za (Zc (Zc (Zf w) (.cells #[.slice A t.cols.length c, .int .i64 t.head, .int .i64 t.foot, .slice A' t.rows.length c', .int .i64 t.gap] 26)) (.cells #[.int .i64 gr, .int .i64 n, .slice GA cells.length gc] 39))
 go_upto_region 1 with fail
 go_cut [5] from 5 to 13 (fun s5 wx => ∃ g cc, s5 = .slice (some ⟨g, 0, none⟩) n cc ∧ w.heap.size + 2 ≤ g ∧ Aside (Below w.heap.size w wx) ∧ Aside (Zn wx w.heap.size (.slice (some ⟨g, 0, none⟩) n cc) X) ∧ wx.cell? ⟨w.heap.size, 0, none⟩ = some (.slice A t.cols.length c) ∧ wx.cell? ⟨w.heap.size, 1, none⟩ = some (.int .i64 t.head) ∧ wx.cell? ⟨w.heap.size, 2, none⟩ = some (.int .i64 t.foot) ∧ wx.cell? ⟨w.heap.size, 3, none⟩ = some (.slice A' t.rows.length c') ∧ wx.cell? ⟨w.heap.size, 4, none⟩ = some (.int .i64 t.gap) ∧ wx.cell? ⟨w.heap.size + 1, 0, none⟩ = some (.int .i64 gr) ∧ wx.cell? ⟨w.heap.size + 1, 1, none⟩ = some (.int .i64 n) ∧ wx.cell? ⟨w.heap.size + 1, 2, none⟩ = some (.slice GA cells.length gc))
 case first =>
  go_region_with (first
   | (go_at_call 191; refine (hZ _).mono ?_; rintro e w2 ⟨v, rfl, hI, hb2⟩; obtain ⟨c2, f2, s2⟩ := Jc w.heap.size (by first | (simp; omega) | simp [*]) hb2; obtain ⟨c3, f3, s3⟩ := Jc (w.heap.size + 1) (by first | (simp; omega) | simp [*]) hb2; obtain ⟨A2, d2, rfl⟩ := hI.form; have hrd := Qq hI; rw [List.length_replicate])
   | (go_at_call 190; refine (hM _ ?_ A2 d2 ?_).mono ?_; (first | exact step HB.out hb2 | exact step (Zt HB.out) hb2 | exact Zt (step HB.out hb2) | exact Zt (step (Zt HB.out) hb2)); (first | exact hrd | exact hrd.below (Zt (Zf _))); rintro e w3 ⟨v, rfl, hI3, hb3⟩; obtain ⟨c4, f4, s4⟩ := Jc w.heap.size (by first | (simp; omega) | simp [*]) hb3; obtain ⟨c5, f5, s5⟩ := Jc (w.heap.size + 1) (by first | (simp; omega) | simp [*]) hb3; obtain ⟨g, cc, rfl, hg1, hg2, _, _⟩ := hI3.at (by rw [HL.out]; exact hn.1); rw [HL.out]; rw [HL.out] at hI3))
  all_goals
   have hsz : w.heap.size ≤ w2.heap.size := Nat.le_trans HB.out.size hb2.size
   have hsz2 : w.heap.size + 2 ≤ w2.heap.size := by have h0 := hb2.size; simp at h0; omega
   have y0 : w3.cell? ⟨w.heap.size, 0, none⟩ = some (.slice A t.cols.length c) := by simp [c4, c2]
   have y1 : w3.cell? ⟨w.heap.size, 1, none⟩ = some (.int .i64 t.head) := by simp [c4, c2]
   have y2 : w3.cell? ⟨w.heap.size, 2, none⟩ = some (.int .i64 t.foot) := by simp [c4, c2]
   have y3 : w3.cell? ⟨w.heap.size, 3, none⟩ = some (.slice A' t.rows.length c') := by simp [c4, c2]
   have y4 : w3.cell? ⟨w.heap.size, 4, none⟩ = some (.int .i64 t.gap) := by simp [c4, c2]
   have y5 : w3.cell? ⟨w.heap.size + 1, 0, none⟩ = some (.int .i64 gr) := by simp [c5, c3]
   have y6 : w3.cell? ⟨w.heap.size + 1, 1, none⟩ = some (.int .i64 n) := by simp [c5, c3]
   have y7 : w3.cell? ⟨w.heap.size + 1, 2, none⟩ = some (.slice GA cells.length gc) := by simp [c5, c3]
   go_wp2_with fail
   go_meet
   refine ⟨g, cc, rfl, Nat.le_trans hsz2 hg1, (show Aside _ from ?_), (show Aside _ from ?_), y0, y1, y2, y3, y4, y5, y6, y7⟩
   · show Below _ _ _
     (repeat' (with_reducible first | exact HB.out | refine Zt ?_ | refine step ?_ (by with_reducible assumption)))
   first
    | exact hI3.base hsz
    | exact (hI3.base hsz).below (Zt (Zf _))
 case rest =>
 obtain ⟨g, cc, rfl, hgw, HB2, HI, y0, y1, y2, y3, y4, y5, y6, y7⟩ := hcut
 go_wp2_with fail
 refine (hE _ HB2.out).mono ?_
 rintro e w3 ⟨v, rfl, hO3, hb3⟩
 have HB3 := Za (step HB2.out hb3)
 have HX3 := Za (HI.out.below hb3)
 have hgl0 : g < wc.heap.size := by
  obtain ⟨g', c2, e, _, h2, _⟩ := HI.out.at (by rw [HL.out]; omega)
  injection e with e; injection e with e; injection e with e; omega
 obtain ⟨g3, c3, rfl, hg3, hg4, _, _⟩ := hO3.at (by rw [HL2.out]; exact hn.1)
 have hne : g ≠ g3 := by omega
 rw [HL2.out]
 rw [HL2.out] at hO3
 have HO3 := Za hO3
 clear hO3 hb3 y0 y1 y2 y3 y4 y5 y6 y7 hE
 go_wp2_with fail
 go_loopg [7] n (fun gg s7 wr => ∃ kk : Nat, kk ≤ n ∧ n - kk ≤ gg ∧ s7 = .int .i64 kk ∧ Aside (Below w.heap.size w wr) ∧ Aside (Zn wr wc.heap.size (.slice (some ⟨g3, 0, none⟩) n c3) Y) ∧ Aside (Zn wr w.heap.size (.slice (some ⟨g, 0, none⟩) n cc) (Jm (Zb8 Y) kk X)))
 case atStart => exact ⟨0, Nat.zero_le _, by omega, rfl, HB3.out, HO3.out, (show Aside _ from by rw [Zcr]; exact HX3.out)⟩
 obtain ⟨kk, hkk, hgg, rfl, HB, HY, HM⟩ := hrel
 by_cases hlt : kk < n
 ·
  have hltz : (kk : Int) < (n : Int) := by omega
  go_wp2_with fail
  obtain ⟨y, hy⟩ : ∃ y, X.getD kk 0 = y := ⟨_, rfl⟩
  obtain ⟨z, hz⟩ : ∃ z, Y.getD kk 0 = z := ⟨_, rfl⟩
  have HMD : Hid (Zn wr.drew w.heap.size (.slice (some ⟨g, 0, none⟩) n cc) (Jm (Zb8 Y) kk X)) := HM.out.below (Zt (Zf _))
  have HYD : Hid (Zn wr.drew wc.heap.size (.slice (some ⟨g3, 0, none⟩) n c3) Y) := HY.out.below (Zt (Zf _))
  have HBD := Za (Zt HB.out)
  have hml : kk < (Jm (Zb8 Y) kk X).length := by rw [Zal, HL.out]; omega
  have cm := HMD.out.cell (j := kk) hml
  have cy := HYD.out.cell (j := kk) (by rw [HL2.out]; omega)
  rw [Zer, hy] at cm
  rw [hz] at cy
  have HFZ : Hid (∀ W, Below wr.drew.heap.size wr.drew W → W.frozen? ⟨g, kk, none⟩ = false) := fun W h => (HMD.out.below h).frozen kk
  have HSS : Hid (∀ W, Below wr.drew.heap.size wr.drew W → Zn (W.setCell ⟨g, kk, none⟩ (.int .i64 (max y z))) w.heap.size (.slice (some ⟨g, 0, none⟩) n cc) (Jm (Zb8 Y) (kk + 1) X) ∧ Zn (W.setCell ⟨g, kk, none⟩ (.int .i64 (max y z))) wc.heap.size (.slice (some ⟨g3, 0, none⟩) n c3) Y) := fun W h => by
   have h1 := (HMD.out.below h).store kk (Zb8 Y kk (X.getD kk 0))
   have h2 : Zb8 Y kk (X.getD kk 0) = max y z := by unfold Zb8; rw [hy, hz]
   rw [Zdj _ _ _ (by rw [HL.out]; omega), h2] at h1
   exact ⟨h1, (HYD.out.below h).other (a := ⟨g, kk, none⟩) hne (.int .i64 (max y z))⟩
  clear hml hy hz HM HY
  obtain ⟨vals, hvals⟩ : ∃ f : Nat → Value, f = (fun j => match j with | 0 => .slice (some ⟨g, 0, none⟩) n cc | 1 => .int .i64 ↑kk | 2 => .slice (some ⟨g, 0, none⟩) n cc | 3 => .int .i64 ↑kk | 4 => .pointer (some ⟨g, kk, none⟩) | 5 => .int .i64 y | 6 => .slice (some ⟨g3, 0, none⟩) n c3 | 7 => .int .i64 ↑kk | 8 => .pointer (some ⟨g3, kk, none⟩) | 9 => .int .i64 z | 10 => .int .i64 (max y z) | 11 => .pointer (some ⟨g, kk, none⟩) | 12 => undef | _ => undef) := ⟨_, rfl⟩
  have e0 : vals 0 = .slice (some ⟨g, 0, none⟩) n cc := congrFun hvals 0
  have e1 : vals 1 = .int .i64 ↑kk := congrFun hvals 1
  have e2 : vals 2 = .slice (some ⟨g, 0, none⟩) n cc := congrFun hvals 2
  have e3 : vals 3 = .int .i64 ↑kk := congrFun hvals 3
  have e4 : vals 4 = .pointer (some ⟨g, kk, none⟩) := congrFun hvals 4
  have e5 : vals 5 = .int .i64 y := congrFun hvals 5
  have e6 : vals 6 = .slice (some ⟨g3, 0, none⟩) n c3 := congrFun hvals 6
  have e7 : vals 7 = .int .i64 ↑kk := congrFun hvals 7
  have e8 : vals 8 = .pointer (some ⟨g3, kk, none⟩) := congrFun hvals 8
  have e9 : vals 9 = .int .i64 z := congrFun hvals 9
  have e10 : vals 10 = .int .i64 (max y z) := congrFun hvals 10
  have e11 : vals 11 = .pointer (some ⟨g, kk, none⟩) := congrFun hvals 11
  have e12 : vals 12 = undef := congrFun hvals 12
  clear hvals
  obtain ⟨dep, hdep⟩ : ∃ f : Nat → List Nat, f = (fun j => match j with | 4 => [2, 3] | 5 => [4] | 8 => [6, 7] | 9 => [8] | 10 => [5, 9] | 11 => [0, 1] | 12 => [11, 10] | _ => []) := ⟨_, rfl⟩
  have d0 : dep 0 = [] := congrFun hdep 0
  have d1 : dep 1 = [] := congrFun hdep 1
  have d2 : dep 2 = [] := congrFun hdep 2
  have d3 : dep 3 = [] := congrFun hdep 3
  have d4 : dep 4 = [2, 3] := congrFun hdep 4
  have d5 : dep 5 = [4] := congrFun hdep 5
  have d6 : dep 6 = [] := congrFun hdep 6
  have d7 : dep 7 = [] := congrFun hdep 7
  have d8 : dep 8 = [6, 7] := congrFun hdep 8
  have d9 : dep 9 = [8] := congrFun hdep 9
  have d10 : dep 10 = [5, 9] := congrFun hdep 10
  have d11 : dep 11 = [0, 1] := congrFun hdep 11
  have d12 : dep 12 = [11, 10] := congrFun hdep 12
  clear hdep
  have HLD : Zl7 13 dep := by
   intro L hc k12
   have k11 : L 11 := hc 12 k12 11 (by rw [d12]; simp)
   have k10 : L 10 := hc 12 k12 10 (by rw [d12]; simp)
   have k9 : L 9 := hc 10 k10 9 (by rw [d10]; simp)
   have k8 : L 8 := hc 9 k9 8 (by rw [d9]; simp)
   have k7 : L 7 := hc 8 k8 7 (by rw [d8]; simp)
   have k6 : L 6 := hc 8 k8 6 (by rw [d8]; simp)
   have k5 : L 5 := hc 10 k10 5 (by rw [d10]; simp)
   have k4 : L 4 := hc 5 k5 4 (by rw [d5]; simp)
   have k3 : L 3 := hc 4 k4 3 (by rw [d4]; simp)
   have k2 : L 2 := hc 4 k4 2 (by rw [d4]; simp)
   have k1 : L 1 := hc 11 k11 1 (by rw [d11]; simp)
   have k0 : L 0 := hc 11 k11 0 (by rw [d11]; simp)
   intro j hj
   obtain rfl|rfl|rfl|rfl|rfl|rfl|rfl|rfl|rfl|rfl|rfl|rfl|rfl : j = 0 ∨ j = 1 ∨ j = 2 ∨ j = 3 ∨ j = 4 ∨ j = 5 ∨ j = 6 ∨ j = 7 ∨ j = 8 ∨ j = 9 ∨ j = 10 ∨ j = 11 ∨ j = 12 := by omega
   all_goals assumption
  refine Qe (fun l a W => ∃ vs : Nat → Value, a = ⟨List.toArray ((Ya A t c A' c') :: .agg #[.int .i64 gr, .int .i64 ↑n, .slice GA cells.length gc] :: .pointer (some ⟨w.heap.size, 0, none⟩) :: .pointer (some ⟨w.heap.size + 1, 0, none⟩) :: .slice none 0 0 :: .slice (some ⟨g, 0, none⟩) n cc :: .slice (some ⟨g3, 0, none⟩) n c3 :: .int .i64 ↑kk :: u8 :: u9 :: u10 :: u11 :: u12 :: (Ya A t c A' c') :: .agg #[.int .i64 gr, .int .i64 ↑n, .slice GA cells.length gc] :: .slice (some ⟨g3, 0, none⟩) n c3 :: .int .i64 ↑kk :: .slice (some ⟨g, 0, none⟩) n cc :: .int .i64 ↑n :: .bool true :: u20 :: u21 :: vs 0 :: vs 1 :: vs 2 :: vs 3 :: vs 4 :: vs 5 :: vs 6 :: vs 7 :: vs 8 :: vs 9 :: vs 10 :: vs 11 :: Zb :: []), []⟩ ∧ Zbj vals 13 dep (wr.drew) ⟨g, kk, none⟩ (.int .i64 (max y z)) l vs W) (by kernel_rfl) ?top ?start ?step ?fin
  case top => exact Zae (by kernel_rfl)
  case start => exact ⟨(fun j => match j with | 0 => u22 | 1 => u23 | 2 => u24 | 3 => u25 | 4 => u26 | 5 => u27 | 6 => u28 | 7 => u29 | 8 => u30 | 9 => u31 | 10 => u32 | 11 => u33 | _ => undef), rfl, Zbj.start (by decide)⟩
  case step =>
   rintro l a W i o ho hl hpre hsz ⟨vs, rfl, hM0⟩ K hK
   have hi : i < 13 := (Array.getElem?_eq_some_iff.1 ho).1
   have hM := hM0.open HLD hi hl
   obtain rfl|rfl|rfl|rfl|rfl|rfl|rfl|rfl|rfl|rfl|rfl|rfl|rfl := Zuu hi
   all_goals
    simp only [List.getElem?_toArray, List.getElem?_cons_zero, List.getElem?_cons_succ, Option.some.injEq] at ho
    subst ho
    have hPR := Zce hpre
   · have hdp : ∀ e ∈ dep 0, l.getD e false = true := by rw [d0]; exact Jt
     have e := e0
     clear e0 e1 e2 e3 e4 e5 e6 e7 e8 e9 e10 e11 e12 d0 d1 d2 d3 d4 d5 d6 d7 d8 d9 d10 d11 d12
     go_simp
     exact hK.out _ _ ⟨Zd vs 0 (.slice (some ⟨g, 0, none⟩) n cc), rfl, hM0.still HLD 0 (by decide) hl _ e.symm hdp⟩
   · have hdp : ∀ e ∈ dep 1, l.getD e false = true := by rw [d1]; exact Jt
     have e := e1
     clear e0 e1 e2 e3 e4 e5 e6 e7 e8 e9 e10 e11 e12 d0 d1 d2 d3 d4 d5 d6 d7 d8 d9 d10 d11 d12
     go_simp
     exact hK.out _ _ ⟨Zd vs 1 (.int .i64 ↑kk), rfl, hM0.still HLD 1 (by decide) hl _ e.symm hdp⟩
   · have hdp : ∀ e ∈ dep 2, l.getD e false = true := by rw [d2]; exact Jt
     have e := e2
     clear e0 e1 e2 e3 e4 e5 e6 e7 e8 e9 e10 e11 e12 d0 d1 d2 d3 d4 d5 d6 d7 d8 d9 d10 d11 d12
     go_simp
     exact hK.out _ _ ⟨Zd vs 2 (.slice (some ⟨g, 0, none⟩) n cc), rfl, hM0.still HLD 2 (by decide) hl _ e.symm hdp⟩
   · have hdp : ∀ e ∈ dep 3, l.getD e false = true := by rw [d3]; exact Jt
     have e := e3
     clear e0 e1 e2 e3 e4 e5 e6 e7 e8 e9 e10 e11 e12 d0 d1 d2 d3 d4 d5 d6 d7 d8 d9 d10 d11 d12
     go_simp
     exact hK.out _ _ ⟨Zd vs 3 (.int .i64 ↑kk), rfl, hM0.still HLD 3 (by decide) hl _ e.symm hdp⟩
   ·
    have v2 : vs 2 = .slice (some ⟨g, 0, none⟩) n cc := (hM.held 2 (hPR 2 rfl)).trans e2
    have v3 : vs 3 = .int .i64 ↑kk := (hM.held 3 (hPR 3 rfl)).trans e3
    have hdp : ∀ e ∈ dep 4, l.getD e false = true := by rw [d4]; exact (Jd (hPR 2 rfl) (Jd (hPR 3 rfl) Jt))
    have e := e4
    clear e0 e1 e2 e3 e4 e5 e6 e7 e8 e9 e10 e11 e12 d0 d1 d2 d3 d4 d5 d6 d7 d8 d9 d10 d11 d12
    rw [v2, v3]
    go_simp
    exact hK.out _ _ ⟨Zd vs 4 (.pointer (some ⟨g, kk, none⟩)), by simp [Zd, v2, v3], hM0.still HLD 4 (by decide) hl _ e.symm hdp⟩
   ·
    have v4 : vs 4 = .pointer (some ⟨g, kk, none⟩) := (hM.held 4 (hPR 4 rfl)).trans e4
    have hdp : ∀ e ∈ dep 5, l.getD e false = true := by rw [d5]; exact (Jd (hPR 4 rfl) Jt)
    have e := e5
    clear e0 e1 e2 e3 e4 e5 e6 e7 e8 e9 e10 e11 e12 d0 d1 d2 d3 d4 d5 d6 d7 d8 d9 d10 d11 d12
    have x0 := Zg hM.below cm
    rw [v4]
    go_simp
    exact hK.out _ _ ⟨Zd vs 5 (.int .i64 y), by simp [Zd, v4], hM0.still HLD 5 (by decide) hl _ e.symm hdp⟩
   · have hdp : ∀ e ∈ dep 6, l.getD e false = true := by rw [d6]; exact Jt
     have e := e6
     clear e0 e1 e2 e3 e4 e5 e6 e7 e8 e9 e10 e11 e12 d0 d1 d2 d3 d4 d5 d6 d7 d8 d9 d10 d11 d12
     go_simp
     exact hK.out _ _ ⟨Zd vs 6 (.slice (some ⟨g3, 0, none⟩) n c3), rfl, hM0.still HLD 6 (by decide) hl _ e.symm hdp⟩
   · have hdp : ∀ e ∈ dep 7, l.getD e false = true := by rw [d7]; exact Jt
     have e := e7
     clear e0 e1 e2 e3 e4 e5 e6 e7 e8 e9 e10 e11 e12 d0 d1 d2 d3 d4 d5 d6 d7 d8 d9 d10 d11 d12
     go_simp
     exact hK.out _ _ ⟨Zd vs 7 (.int .i64 ↑kk), rfl, hM0.still HLD 7 (by decide) hl _ e.symm hdp⟩
   ·
    have v6 : vs 6 = .slice (some ⟨g3, 0, none⟩) n c3 := (hM.held 6 (hPR 6 rfl)).trans e6
    have v7 : vs 7 = .int .i64 ↑kk := (hM.held 7 (hPR 7 rfl)).trans e7
    have hdp : ∀ e ∈ dep 8, l.getD e false = true := by rw [d8]; exact (Jd (hPR 6 rfl) (Jd (hPR 7 rfl) Jt))
    have e := e8
    clear e0 e1 e2 e3 e4 e5 e6 e7 e8 e9 e10 e11 e12 d0 d1 d2 d3 d4 d5 d6 d7 d8 d9 d10 d11 d12
    rw [v6, v7]
    go_simp
    exact hK.out _ _ ⟨Zd vs 8 (.pointer (some ⟨g3, kk, none⟩)), by simp [Zd, v6, v7], hM0.still HLD 8 (by decide) hl _ e.symm hdp⟩
   ·
    have v8 : vs 8 = .pointer (some ⟨g3, kk, none⟩) := (hM.held 8 (hPR 8 rfl)).trans e8
    have hdp : ∀ e ∈ dep 9, l.getD e false = true := by rw [d9]; exact (Jd (hPR 8 rfl) Jt)
    have e := e9
    clear e0 e1 e2 e3 e4 e5 e6 e7 e8 e9 e10 e11 e12 d0 d1 d2 d3 d4 d5 d6 d7 d8 d9 d10 d11 d12
    have x0 := Zg hM.below cy
    rw [v8]
    go_simp
    exact hK.out _ _ ⟨Zd vs 9 (.int .i64 z), by simp [Zd, v8], hM0.still HLD 9 (by decide) hl _ e.symm hdp⟩
   ·
    have v5 : vs 5 = .int .i64 y := (hM.held 5 (hPR 5 rfl)).trans e5
    have v9 : vs 9 = .int .i64 z := (hM.held 9 (hPR 9 rfl)).trans e9
    have hdp : ∀ e ∈ dep 10, l.getD e false = true := by rw [d10]; exact (Jd (hPR 5 rfl) (Jd (hPR 9 rfl) Jt))
    have e := e10
    clear e0 e1 e2 e3 e4 e5 e6 e7 e8 e9 e10 e11 e12 d0 d1 d2 d3 d4 d5 d6 d7 d8 d9 d10 d11 d12
    rw [v5, v9]
    go_simp
    refine (Zet y z _).mono ?_
    rintro e5 W5 ⟨rfl, hq⟩
    exact hK.out _ _ ⟨Zd vs 10 (.int .i64 (max y z)), by simp [Zd, v5, v9], hM0.next HLD 10 (by decide) hl _ e.symm hdp (by rw [hq]; exact Zf _)⟩
   ·
    have v0 : vs 0 = .slice (some ⟨g, 0, none⟩) n cc := (hM.held 0 (hPR 0 rfl)).trans e0
    have v1 : vs 1 = .int .i64 ↑kk := (hM.held 1 (hPR 1 rfl)).trans e1
    have hdp : ∀ e ∈ dep 11, l.getD e false = true := by rw [d11]; exact (Jd (hPR 0 rfl) (Jd (hPR 1 rfl) Jt))
    have e := e11
    clear e0 e1 e2 e3 e4 e5 e6 e7 e8 e9 e10 e11 e12 d0 d1 d2 d3 d4 d5 d6 d7 d8 d9 d10 d11 d12
    rw [v0, v1]
    go_simp
    exact hK.out _ _ ⟨Zd vs 11 (.pointer (some ⟨g, kk, none⟩)), by simp [Zd, v0, v1], hM0.still HLD 11 (by decide) hl _ e.symm hdp⟩
   have v11 : vs 11 = .pointer (some ⟨g, kk, none⟩) := (hM.held 11 (hPR 11 rfl)).trans e11
   have v10 : vs 10 = .int .i64 (max y z) := (hM.held 10 (hPR 10 rfl)).trans e10
   have hdp : ∀ e ∈ dep 12, l.getD e false = true := by rw [d12]; exact (Jd (hPR 11 rfl) (Jd (hPR 10 rfl) Jt))
   have e := e12
   clear e0 e1 e2 e3 e4 e5 e6 e7 e8 e9 e10 e11 e12 d0 d1 d2 d3 d4 d5 d6 d7 d8 d9 d10 d11 d12
   have fm := HFZ.out _ hM.below
   have cw := Zg hM.below cm
   rw [v11, v10]
   go_simp
   exact hK.out _ _ ⟨Zd vs 12 (undef), by simp [Zd, v11, v10], hM0.last HLD 12 rfl hl _ e.symm hdp⟩
  rintro l a W6 hall ⟨vs6, rfl, hM0⟩
  obtain ⟨W61, hM, rfl⟩ := hM0.fin (by decide) hall
  have HBW := Za hM.below
  clear e0 e1 e2 e3 e4 e5 e6 e7 e8 e9 e10 e11 e12 d0 d1 d2 d3 d4 d5 d6 d7 d8 d9 d10 d11 d12 HLD
  go_wp2_with fail
  go_roundg (n - (kk + 1))
  case measure => omega
  exact ⟨kk + 1, by omega, by omega, by go_num, (show Aside _ from Yi (step HBD.out HBW.out) (by show w.heap.size ≤ g; omega) _), (show Aside _ from (HSS.out _ HBW.out).2), (show Aside _ from (HSS.out _ HBW.out).1)⟩
 have hltz : ¬ (kk : Int) < (n : Int) := by omega
 have HK := Za (show Jm (Zb8 Y) kk X = Zcb t cells n by
  rw [show kk = X.length by rw [HL.out]; omega, Zdp, HR.out])
 go_wp2_with fail
 go_ret
 exact ⟨_, rfl, by rw [← HK.out]; exact HM.out, HB.out⟩
end Go.Proofs.YtgdmcmicfoamlaaGreatDoor
namespace Go.Proofs.YtgdmcmicfoamlaaGreatDoor
def Jr (total : Int) (wants : List Int) : List Int × Int := if Zq wants ≤ total then (wants, total - Zq wants) else (Ye total wants, 0)
def Zeg (kind nn : Nat → Int) (width : Int) (cols : List Int) : List Int := cols.mapIdx fun k has => if kind k = 2 then max (width * nn k / 100 - has) 0 else 0
def Zei (kind : Nat → Int) (wish cols : List Int) : List Int := cols.mapIdx fun k has => if kind k = 0 then max (wish.getD k 0 - has) 0 else 0
def Zu (kind : Nat → Int) (q : Int) (n : Nat) : List Int := (List.range n).map fun k => if kind k = q then 1 else 0
def Zc7 (cols : List Int) (gap : Int) : Int := Zq cols + gap * max ((cols.length : Int) - 1) 0
def Ziw (kind nn : Nat → Int) (width gap : Int) (least : List Int) : List Int × Int :=
 ((Qk least 0 (Jr (width - Zc7 least gap) (Zeg kind nn width least)).1), (Jr (width - Zc7 least gap) (Zeg kind nn width least)).2)
def Zfa (kind : Nat → Int) (wish : List Int) (x : List Int × Int) : List Int × Int :=
 ((Qk x.1 0 (Jr x.2 (Zei kind wish x.1)).1), (Jr x.2 (Zei kind wish x.1)).2)
def Zc8 (kind : Nat → Int) (x : List Int × Int) : List Int :=
 if 0 < Zq (Zu kind 0 x.1.length) then Qk x.1 0 (Ye x.2 (Zu kind 0 x.1.length))
 else if 0 < Zq (Zu kind 2 x.1.length) then Qk x.1 0 (Ye x.2 (Zu kind 2 x.1.length)) else x.1
def Za6 (kind nn : Nat → Int) (width gap : Int) (least wish : List Int) : List Int :=
 if width - Zc7 least gap ≤ 0 then least else Zc8 kind (Zfa kind wish (Ziw kind nn width gap least))
theorem Zg1 {xs cols : List Int} (h : xs.length = cols.length) : Zq (Qk cols 0 xs) = Zq cols + Zq xs := by
 have h1 := Znn (cols := cols) (xs := xs) (a := 0) (by omega)
 have h2 : ∀ l : List Int, l.length = xs.length → Yk l 0 xs.length = Zq l := by
  intro l hl
  unfold Yk
  rw [List.drop_zero, ← hl, List.take_length]
 rw [h2 _ (by rw [Jj]; omega), h2 _ h.symm] at h1
 exact h1
theorem Zdo {xs cols : List Int} (h : xs.length = cols.length) (j : Nat) : (Qk cols 0 xs).getD j 0 = cols.getD j 0 + xs.getD j 0 := by
 rw [Zb1 xs cols 0 j (by omega), Nat.sub_zero, Nat.zero_add]
 by_cases hj : j < xs.length
 · rw [if_pos ⟨Nat.zero_le _, hj⟩]
 rw [if_neg (by omega)]
 have : xs.getD j 0 = 0 := by rw [List.getD_eq_getElem?_getD, List.getElem?_eq_none (by omega)]; rfl
 omega
theorem Zid {total : Int} {wants : List Int} (ht : 0 ≤ total) (h : ∀ x ∈ wants, 0 ≤ x) :
 (Jr total wants).1.length = wants.length ∧ (∀ x ∈ (Jr total wants).1, 0 ≤ x) ∧ Zq (Jr total wants).1 + (Jr total wants).2 = total ∧ 0 ≤ (Jr total wants).2 ∧ (∀ i, wants.getD i 0 = 0 → (Jr total wants).1.getD i 0 = 0) ∧ (Zq wants ≤ total → (Jr total wants).1 = wants) := by
 unfold Jr
 by_cases hle : Zq wants ≤ total
 · rw [if_pos hle]
   exact ⟨rfl, h, by show Zq wants + (total - Zq wants) = total; omega, by show 0 ≤ total - Zq wants; omega, fun i hi => hi, fun _ => rfl⟩
 rw [if_neg hle]
 have hn : wants ≠ [] := by rintro rfl; simp [Jz] at hle; omega
 obtain ⟨s1, s2, s3⟩ := Zaz ht h hn
 exact ⟨s1, s3, by show Zq (Ye total wants) + 0 = total; omega, Int.le_refl _, fun i hi => Zke (by omega) hi, fun h' => absurd h' hle⟩
theorem Zlb (kind nn : Nat → Int) (width : Int) (cols : List Int) : ∀ x ∈ Zeg kind nn width cols, 0 ≤ x := by
 intro x hx
 unfold Zeg at hx
 obtain ⟨i, hi, rfl⟩ := List.getElem_of_mem hx
 rw [List.getElem_mapIdx]
 split <;> omega
theorem Zk8 (kind : Nat → Int) (wish cols : List Int) : ∀ x ∈ Zei kind wish cols, 0 ≤ x := by
 intro x hx
 unfold Zei at hx
 obtain ⟨i, hi, rfl⟩ := List.getElem_of_mem hx
 rw [List.getElem_mapIdx]
 split <;> omega
theorem Zkx (kind nn : Nat → Int) (width : Int) (cols : List Int) : (Zeg kind nn width cols).length = cols.length := by simp [Zeg]
theorem Zk0 (kind : Nat → Int) (wish cols : List Int) : (Zei kind wish cols).length = cols.length := by simp [Zei]
theorem Zqg (kind nn : Nat → Int) (width : Int) (cols : List Int) (k : Nat) (hk : k < cols.length) : (Zeg kind nn width cols).getD k 0 = if kind k = 2 then max (width * nn k / 100 - cols.getD k 0) 0 else 0 := by
 unfold Zeg
 simp [List.getD_eq_getElem?_getD, hk]
theorem Zqe (kind : Nat → Int) (wish cols : List Int) (k : Nat) (hk : k < cols.length) : (Zei kind wish cols).getD k 0 = if kind k = 0 then max (wish.getD k 0 - cols.getD k 0) 0 else 0 := by
 unfold Zei
 simp [List.getD_eq_getElem?_getD, hk]
theorem Zpq (kind : Nat → Int) (q : Int) (n k : Nat) : (Zu kind q n).getD k 0 = if k < n ∧ kind k = q then 1 else 0 := by
 unfold Zu
 simp only [List.getD_eq_getElem?_getD, List.getElem?_map]
 by_cases h : k < n
 · simp [h]
 simp [h]
theorem Zga (kind : Nat → Int) (q : Int) (n : Nat) : ∀ x ∈ Zu kind q n, 0 ≤ x := by
 intro x hx
 unfold Zu at hx
 obtain ⟨k, _, rfl⟩ := List.mem_map.1 hx
 show 0 ≤ if kind k = q then (1 : Int) else 0
 split <;> decide
theorem Zg3 {kind : Nat → Int} {q : Int} {n k : Nat} (hk : k < n) (hq : kind k = q) : 0 < Zq (Zu kind q n) := by
 have h := Zby (Zga kind q n) 1 (by
  unfold Zu
  exact List.mem_map.2 ⟨k, List.mem_range.2 hk, by rw [if_pos hq]⟩)
 omega
theorem Zlo {kind : Nat → Int} {q : Int} {x : List Int × Int} (ht : 0 ≤ x.2) (hq : 0 < Zq (Zu kind q x.1.length)) :
 (Qk x.1 0 (Ye x.2 (Zu kind q x.1.length))).length = x.1.length ∧ Zq (Qk x.1 0 (Ye x.2 (Zu kind q x.1.length))) = Zq x.1 + x.2 ∧ (∀ j, x.1.getD j 0 ≤ (Qk x.1 0 (Ye x.2 (Zu kind q x.1.length))).getD j 0) ∧
  ∀ j, kind j ≠ q → (Qk x.1 0 (Ye x.2 (Zu kind q x.1.length))).getD j 0 = x.1.getD j 0 := by
 have hn : Zu kind q x.1.length ≠ [] := by intro e; rw [e] at hq; simp [Jz] at hq
 obtain ⟨s1, s2, s3⟩ := Zaz ht (Zga kind q x.1.length) hn
 have hl : (Ye x.2 (Zu kind q x.1.length)).length = x.1.length := by rw [s1]; simp [Zu]
 refine ⟨Jj _ _ _, by rw [Zg1 hl, s2], Zhl s3 (by omega), fun j hj => ?_⟩
 rw [Zdo hl, Zke hq (by rw [Zpq, if_neg (fun h => hj h.2)])]
 omega
theorem Znj {kind nn : Nat → Int} {width gap : Int} {least wish : List Int} (hkd : ∀ k, kind k = 0 ∨ kind k = 1 ∨ kind k = 2) :
 (Za6 kind nn width gap least wish).length = least.length ∧ (∀ j, least.getD j 0 ≤ (Za6 kind nn width gap least wish).getD j 0) ∧ (∀ j, kind j = 1 → (Za6 kind nn width gap least wish).getD j 0 = least.getD j 0) ∧
  (width - Zc7 least gap ≤ 0 → Za6 kind nn width gap least wish = least) ∧
  (0 < width - Zc7 least gap → ((∀ j, j < least.length → kind j = 1) → Za6 kind nn width gap least wish = least) ∧ ((∃ j, j < least.length ∧ kind j ≠ 1) → Zq (Za6 kind nn width gap least wish) = width - gap * max ((least.length : Int) - 1) 0)) := by
 unfold Za6
 by_cases h0 : width - Zc7 least gap ≤ 0
 · rw [if_pos h0]
   exact ⟨rfl, fun _ => Int.le_refl _, fun _ _ => rfl, fun _ => rfl, fun h => by omega⟩
 rw [if_neg h0]
 obtain ⟨p1, p2, p3, p4, p5, _⟩ := Zid (total := width - Zc7 least gap) (by omega) (Zlb kind nn width least)
 rw [Zkx] at p1
 have a1 : (Ziw kind nn width gap least).1.length = least.length := Jj _ _ _
 have a2 : ∀ j, least.getD j 0 ≤ (Ziw kind nn width gap least).1.getD j 0 := Zhl p2 (by omega)
 have a3 : Zq (Ziw kind nn width gap least).1 + (Ziw kind nn width gap least).2 = Zq least + (width - Zc7 least gap) := by
  show Zq (Qk least 0 _) + _ = _
  rw [Zg1 p1]
  show Zq least + Zq _ + (Jr (width - Zc7 least gap) (Zeg kind nn width least)).2 = _
  omega
 have a4 : ∀ j, kind j ≠ 2 → (Ziw kind nn width gap least).1.getD j 0 = least.getD j 0 := by
  intro j hj
  show (Qk least 0 _).getD j 0 = _
  rw [Zdo p1]
  have : (Jr (width - Zc7 least gap) (Zeg kind nn width least)).1.getD j 0 = 0 := by
   by_cases hjl : j < least.length
   · exact p5 j (by rw [Zqg _ _ _ _ _ hjl, if_neg hj])
   rw [List.getD_eq_getElem?_getD, List.getElem?_eq_none (by omega)]; rfl
  omega
 have a5 : 0 ≤ (Ziw kind nn width gap least).2 := p4
 generalize Ziw kind nn width gap least = x at a1 a2 a3 a4 a5 ⊢
 obtain ⟨q1, q2, q3, q4, q5, _⟩ := Zid (total := x.2) a5 (Zk8 kind wish x.1)
 rw [Zk0] at q1
 have b1 : (Zfa kind wish x).1.length = least.length := (Jj _ _ _).trans a1
 have b2 : ∀ j, least.getD j 0 ≤ (Zfa kind wish x).1.getD j 0 := fun j => Int.le_trans (a2 j) (Zhl q2 (by omega) j)
 have b3 : Zq (Zfa kind wish x).1 + (Zfa kind wish x).2 = Zq least + (width - Zc7 least gap) := by
  show Zq (Qk x.1 0 _) + _ = _
  rw [Zg1 q1]
  show Zq x.1 + Zq _ + (Jr x.2 (Zei kind wish x.1)).2 = _
  omega
 have b4 : ∀ j, kind j = 1 → (Zfa kind wish x).1.getD j 0 = least.getD j 0 := by
  intro j hj
  show (Qk x.1 0 _).getD j 0 = _
  rw [Zdo q1, a4 j (by omega)]
  have : (Jr x.2 (Zei kind wish x.1)).1.getD j 0 = 0 := by
   by_cases hjl : j < x.1.length
   · exact q5 j (by rw [Zqe _ _ _ _ hjl, if_neg (by omega)])
   rw [List.getD_eq_getElem?_getD, List.getElem?_eq_none (by omega)]; rfl
  omega
 have b5 : 0 ≤ (Zfa kind wish x).2 := q4
 generalize Zfa kind wish x = y at b1 b2 b3 b4 b5 ⊢
 have hw : Zq least + (width - Zc7 least gap) = width - gap * max ((least.length : Int) - 1) 0 := by unfold Zc7; omega
 unfold Zc8
 by_cases k0 : 0 < Zq (Zu kind 0 y.1.length)
 ·
  rw [if_pos k0]
  obtain ⟨r1, r2, r3, r4⟩ := Zlo (kind := kind) b5 k0
  refine ⟨r1.trans b1, fun j => Int.le_trans (b2 j) (r3 j), fun j hj => (r4 j (by omega)).trans (b4 j hj), fun h => by omega, fun _ => ⟨fun hall => ?_, fun _ => by rw [r2]; omega⟩⟩
  exfalso
  have : Zq (Zu kind 0 y.1.length) ≤ 0 := by
   have := Zd4 (l := Zu kind 0 y.1.length) (m := 0) (fun z hz => by
    unfold Zu at hz
    obtain ⟨k, hk, rfl⟩ := List.mem_map.1 hz
    have := hall k (by have := List.mem_range.1 hk; omega)
    rw [if_neg (by omega)]; exact Int.le_refl _)
   omega
  omega
 rw [if_neg k0]
 by_cases k2 : 0 < Zq (Zu kind 2 y.1.length)
 ·
  rw [if_pos k2]
  obtain ⟨r1, r2, r3, r4⟩ := Zlo (kind := kind) b5 k2
  refine ⟨r1.trans b1, fun j => Int.le_trans (b2 j) (r3 j), fun j hj => (r4 j (by omega)).trans (b4 j hj), fun h => by omega, fun _ => ⟨fun hall => ?_, fun _ => by rw [r2]; omega⟩⟩
  exfalso
  have : Zq (Zu kind 2 y.1.length) ≤ 0 := by
   have := Zd4 (l := Zu kind 2 y.1.length) (m := 0) (fun z hz => by
    unfold Zu at hz
    obtain ⟨k, hk, rfl⟩ := List.mem_map.1 hz
    have := hall k (by have := List.mem_range.1 hk; omega)
    rw [if_neg (by omega)]; exact Int.le_refl _)
   omega
  omega
 rw [if_neg k2]
 have hno : ∀ j, j < least.length → kind j = 1 := by
  intro j hj
  rcases hkd j with h | h | h
  · exact absurd (Zg3 (n := y.1.length) (by omega) h) k0
  · exact h
  exact absurd (Zg3 (n := y.1.length) (by omega) h) k2
 have hyl : y.1 = least := by
  refine List.ext_getElem b1 fun i h1 h2 => ?_
  have := b4 i (hno i h2)
  rw [List.getD_eq_getElem?_getD, List.getD_eq_getElem?_getD, List.getElem?_eq_getElem h1, List.getElem?_eq_getElem h2] at this
  exact this
 refine ⟨b1, b2, b4, fun h => by omega, fun _ => ⟨fun _ => hyl, fun ⟨j, hj, hj2⟩ => absurd (hno j hj) hj2⟩⟩
end Go.Proofs.YtgdmcmicfoamlaaGreatDoor
