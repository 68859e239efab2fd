import Derived.Test.YtgdmcmicfoamlaaGreatDoorMixTm
set_option linter.unusedVariables false
set_option linter.unusedSimpArgs false
set_option maxHeartbeats 20000000
set_option maxRecDepth 100000
namespace Go.Proofs.YtgdmcmicfoamlaaGreatDoor
open Go.RowKit
theorem Zi1 (t : Tbl) (A : Option Addr) (c : Nat) (A' : Option Addr) (c' : Nat) (x : Zl) (w : World) (hr : Rd Zbp w A' t.rows) (h : Zaq t x) :
 Calls Tryz.prog 136 #[.agg #[.slice A t.cols.length c, .int .i64 t.head, .int .i64 t.foot, .slice A' t.rows.length c', .int .i64 t.gap], .agg #[.int .i64 x.row, .int .i64 x.col, .int .i64 x.rows, .int .i64 x.cols, .int .i64 x.inn]] w fun e w' => e = .returned (.string (Qb t x)) ∧ Below w.heap.size w w' := by
 obtain ⟨rb, ro, bx, ox, mx, cx, r, tq, hAe, er, eq2, hrl, hql, fa, fb, htx⟩ := Zhz hr h
 subst hAe
 rw [er, eq2]
 generalize Qb t x = tx at fb htx ⊢
 have hrz : (r : Int) < (t.rows.length : Int) := by omega
 have hqz : (tq : Int) < (mx : Int) := by omega
 have hl1 := World.block_lt_of_cell? w _ fa
 have hl2 := World.block_lt_of_cell? w _ fb
 have gl1 : rb < w.heap.size := hl1
 have gl2 : bx < w.heap.size := hl2
 have gl3 : rb < w.heap.size + 1 := by omega
 have gl4 : bx < w.heap.size + 1 := by omega
 clear hr h hl1 hl2 hrl hql
 go_enter Tryz.func136, Tryz.ntmps136
 go_wp2_with fail
 go_quiet (fail)
 go_wp2_with fail
 go_ret
 exact ⟨rfl, Zam (Zc (Zc (Zf _) _) _) _⟩
theorem Zis (gr : Int) (n : Nat) (cells : List Zl) (GA : Option Addr) (gc : Nat) (w : World) (hn : n ≤ 1000000) :
 Calls Tryz.prog 191 #[.agg #[.int .i64 gr, .int .i64 n, .slice GA cells.length gc]] w fun e w' => ∃ v, e = .returned v ∧ Zn w' w.heap.size v (List.replicate n 0) ∧ Below w.heap.size w w' := by
 have hmk := Zde (P := Tryz.prog) (z := .int .i64 0) (k := 1) (bytes := 8) Yl Yu n (by omega) (by omega)
 have m := Zb5 (w.alloc (.cells #[.int .i64 gr, .int .i64 n, .slice GA cells.length gc] 39)) w.heap.size n (by simp) hn
 rw [Nat.mul_one] at m
 have M : Hid (Zn ((w.alloc (.cells #[.int .i64 gr, .int .i64 n, .slice GA cells.length gc] 39)).alloc (.cells (madeCells #[Value.int .i64 0] n) 3)) w.heap.size (.slice (some ⟨w.heap.size + 1, 0, none⟩) n n) (List.replicate n 0)) := by
  have e1 : (w.alloc (.cells #[.int .i64 gr, .int .i64 n, .slice GA cells.length gc] 39)).heap.size = w.heap.size + 1 := by simp
  rw [e1] at m
  exact m
 clear m
 go_enter Tryz.func191, Tryz.ntmps191
 go_wp2_with fail
 go_ret
 exact ⟨_, rfl, M.out, Zc (Zc (Zf _) _) _⟩
theorem Ziv (t : Tbl) (A : Option Addr) (c : Nat) (A' : Option Addr) (c' : Nat) (gr : Int) (n : Nat) (cells : List Zl) (GA : Option Addr) (gc : Nat) (lb : Bool) (FA : Option Addr) (fc : Nat) (w : World) (hr : Rd Zbp w A' t.rows) (hG : Rd gcR w GA cells) (hZ : Rd Za4 w FA (List.replicate n 0))
 (hg : 0 ≤ t.gap ∧ t.gap ≤ 3) (hn : 1 ≤ n ∧ n ≤ 1000) (hcell : ∀ x ∈ cells, Zas n (fun c => (if lb then Jq else Zac) (Qb t c)) x ∧ Zaq t x ∧ 0 ≤ (if lb then Jq else Zac) (Qb t x)) (hcl : cells.length ≤ 1000) :
 Calls Tryz.prog 190 #[.agg #[.slice A t.cols.length c, .int .i64 t.head, .int .i64 t.foot, .slice A' t.rows.length c', .int .i64 t.gap], .agg #[.int .i64 gr, .int .i64 n, .slice GA cells.length gc], .bool lb, .slice FA n fc] w fun e w' => ∃ v, e = .returned v ∧ Zn w' w.heap.size v (made t.gap (fun c => (if lb then Jq else Zac) (Qb t c)) cells n) ∧ Below w.heap.size w w' := by
 obtain ⟨fb0, fo0, hFA, _, _⟩ := hZ.2 (by intro e; have := congrArg List.length e; simp at this; omega)
 subst hFA
 have HR := Za hr
 have HG := Za hG
 have HC := Za hcell
 have HZ := Za hZ
 clear hr hG hcell hZ
 obtain ⟨need, hneed⟩ : ∃ f : Zl → Int, f = fun c => (if lb then Jq else Zac) (Qb t c) := ⟨_, rfl⟩
 rw [← hneed] at HC ⊢
 have HND := Za hneed
 clear hneed
 obtain ⟨i0, hi, hz0, hz1, hz2⟩ := info_parts Yu
 have HE : Hid ((((w.alloc (.cells #[.slice A t.cols.length c, .int .i64 t.head, .int .i64 t.foot, .slice A' t.rows.length c', .int .i64 t.gap] 26)).alloc (.cells #[.int .i64 gr, .int .i64 n, .slice GA cells.length gc] 39)).alloc (.cells #[] 3)).ownsRow (w.heap.size + 2) 3 1 (.slice (some ⟨w.heap.size + 1 + 1, 0, none⟩) 0 0) 0 []) := by
  have e2 : ((w.alloc (.cells #[.slice A t.cols.length c, .int .i64 t.head, .int .i64 t.foot, .slice A' t.rows.length c', .int .i64 t.gap] 26)).alloc (.cells #[.int .i64 gr, .int .i64 n, .slice GA cells.length gc] 39)).heap.size = w.heap.size + 1 + 1 := by simp
  have := World.ownsRow_made ((w.alloc (.cells #[.slice A t.cols.length c, .int .i64 t.head, .int .i64 t.foot, .slice A' t.rows.length c', .int .i64 t.gap] 26)).alloc (.cells #[.int .i64 gr, .int .i64 n, .slice GA cells.length gc] 39)) #[] 0 (Nat.le_of_eq e2.symm) (Nat.zero_le _) (by simp) (e := 3) (size := 1)
  rw [e2] at this
  exact this
 go_enter Tryz.func190, Tryz.ntmps190
 go_upto_region 2 with (at_builtin; refine wpList_append_own _ rfl (.tmp 17) (.tmp 18) 29 rfl (w.heap.size + 2) 3 i0 _ 1 8 Yl hi hz0 hz1 hz2 rfl (by decide) (.slice (some ⟨w.heap.size + 1 + 1, 0, none⟩) 0 0) 0 [] rfl HE.out ⟨fb0, fo0, none⟩ n fc ((List.replicate n (0 : Int)).flatMap Zc5) rfl ?qc1 ?qc2 ?qc3 ?qc4 ?qc5 ?qc6 ?_)
 case qc1 => rw [Zbh Zc5 1 (fun _ => rfl), List.length_replicate]
 case qc2 => exact Zji HZ.out (Zc (Zc (Zc (Zf _) _) _) _)
 case qc3 => exact Zhe _
 case qc4 => unfold maxLen; omega
 case qc5 => omega
 case qc6 => simp
 intro v' W3 hown hgrow _
 obtain ⟨T, hT⟩ : ∃ T, T = w.heap.size := ⟨_, rfl⟩
 have hO3 : Zn W3 (T + 2) v' (List.replicate n 0) := by
  unfold Zn
  rw [List.length_replicate, hT]
  simpa using hown
 obtain ⟨g9, c9, rfl, hg9, hg9l, _, _⟩ := hO3.at (by simp; omega)
 rw [List.length_replicate] at hO3 ⊢
 have FW : Hid (Zh W3 T [.slice A t.cols.length c, .int .i64 t.head, .int .i64 t.foot, .slice A' t.rows.length c', .int .i64 t.gap] ∧ Zh W3 (T + 1) [.int .i64 gr, .int .i64 n, .slice GA cells.length gc] ∧ Zn W3 (T + 2) (.slice (some ⟨g9, 0, none⟩) n c9) (List.replicate n 0) ∧ Below w.heap.size w W3) := by
  subst hT
  have e1 : (w.alloc (.cells #[.slice A t.cols.length c, .int .i64 t.head, .int .i64 t.foot, .slice A' t.rows.length c', .int .i64 t.gap] 26)).heap.size = w.heap.size + 1 := by simp
  have e2 : ((w.alloc (.cells #[.slice A t.cols.length c, .int .i64 t.head, .int .i64 t.foot, .slice A' t.rows.length c', .int .i64 t.gap] 26)).alloc (.cells #[.int .i64 gr, .int .i64 n, .slice GA cells.length gc] 39)).heap.size = w.heap.size + 1 + 1 := by simp
  have m1 := Zh.new w [.slice A t.cols.length c, .int .i64 t.head, .int .i64 t.foot, .slice A' t.rows.length c', .int .i64 t.gap] 26
  have m2 := Zh.new (w.alloc (.cells #[.slice A t.cols.length c, .int .i64 t.head, .int .i64 t.foot, .slice A' t.rows.length c', .int .i64 t.gap] 26)) [.int .i64 gr, .int .i64 n, .slice GA cells.length gc] 39
  rw [e1] at m2
  have k1 : ∀ B, B < w.heap.size + 2 → W3.heap[B]? = (((w.alloc (.cells #[.slice A t.cols.length c, .int .i64 t.head, .int .i64 t.foot, .slice A' t.rows.length c', .int .i64 t.gap] 26)).alloc (.cells #[.int .i64 gr, .int .i64 n, .slice GA cells.length gc] 39)).alloc (.cells #[] 3)).heap[B]? := fun B hB => hgrow.block B (by simp; omega) (fun e => by simp [Value.ownBlock] at e; omega)
  refine ⟨?_, ?_, hO3, ?_⟩
  · refine Zh.keep ((m1.keep ((Zc (Zf _) _).block _ (by simp))).keep ((Zc (Zf _) (.cells #[] 3)).block _ (by simp; omega))) (k1 _ (by omega))
  · refine Zh.keep (m2.keep ((Zc (Zf _) (.cells #[] 3)).block _ (by simp))) (k1 _ (by omega))
  exact (Zc (Zc (Zc (Zf _) _) _) _).trans (Qg hgrow (by simp; omega) (fun q hq => by simp [Value.ownBlock] at hq; omega))
 rw [← hT]
 have HTT := Za hT
 have hTl : T + 1 < W3.heap.size := by omega
 clear hown hgrow hO3 HE hT hi hz0 hz1 hz2
 have HIN := Za (fun k => Zh3 (gap := t.gap) hg.1 (fun x hx => (HC.out x hx).1) k : ∀ k, Zdr n (Zbr t.gap need cells n k))
 go_wp2_with fail
 go_loopg [10] 4 (fun gg s10 wr => ∃ k : Nat, s10 = .int .i64 ((k + 1 : Nat) : Int) ∧ k ≤ 4 ∧ 4 - k ≤ gg ∧ Aside (W3.grownBy wr (some g9)) ∧ Aside (Zn wr (T + 2) (.slice (some ⟨g9, 0, none⟩) n c9) (Zbr t.gap need cells n k)))
 case atStart => exact ⟨0, rfl, by omega, by omega, Jk _ _, FW.out.2.2.1⟩
 obtain ⟨k, rfl, hk, hgg, HGR, HO⟩ := hrel
 obtain ⟨sp, hsp⟩ : ∃ sp, sp = k + 1 := ⟨_, rfl⟩
 rw [← hsp]
 have HSP := Za hsp
 have KT := Za (fun (W : World) (hg : W3.grownBy W (some g9)) => FW.out.1.keep (Qm hg (by omega) (by omega)))
 have KG := Za (fun (W : World) (hg : W3.grownBy W (some g9)) => FW.out.2.1.keep (Qm hg (by omega) (by omega)))
 have KW := Za (fun (W : World) (hg : W3.grownBy W (some g9)) => FW.out.2.2.2.trans (Qg hg (by have := FW.out.2.2.2.size; omega) (fun q hq => by injection hq with hq; have := HTT.out; omega)))
 by_cases hlt : k < 4
 ·
  have hltz : (sp : Int) ≤ 4 := by omega
  have hsp1 : 1 ≤ sp ∧ sp ≤ 4 := by omega
  clear hsp
  go_wp2_with fail
  go_loopg [11] cells.length (fun g2 s11 wr => ∃ i : Nat, s11 = .int .i64 i ∧ i ≤ cells.length ∧ cells.length - i ≤ g2 ∧ Aside (W3.grownBy wr (some g9)) ∧ Aside (Zn wr (T + 2) (.slice (some ⟨g9, 0, none⟩) n c9) (Zda t.gap need sp (cells.take i) (Zbr t.gap need cells n k))))
  case atStart => exact ⟨0, rfl, Nat.zero_le _, by omega, HGR.out, (show Aside _ from by show Zn _ _ _ _; rw [List.take_zero]; exact HO.out)⟩
  obtain ⟨i, rfl, hil, hg2, HGR2, HO2⟩ := hrel
  clear HGR HO
  have hg2' := (KG.out wr HGR2.out).1 2 _ rfl
  by_cases hlt2 : i < cells.length
  ·
   have hltz2 : (i : Int) < (cells.length : Int) := by omega
   obtain ⟨gb, go, x0, x1, x2, x3, x4, rfl, _, ⟨ex, hsm⟩, k0, k1, k2, k3, k4⟩ := HG.out.at5 rfl (KW.out wr HGR2.out) i hlt2
   obtain ⟨hci, hca, hnn⟩ := HC.out cells[i] (List.getElem_mem hlt2)
   have hst := Zjx (gap := t.gap) (need := need) (span := sp) (cols := Zbr t.gap need cells n k) hlt2
   have hci2 := (Zbk (span := sp) hg.1 hsp1.1 (cells.take i) _ (HIN.out k) (fun x hx => (HC.out x (List.mem_of_mem_take hx)).1)).1
   generalize Zda t.gap need sp (cells.take i) (Zbr t.gap need cells n k) = X at HO2 hst hci2
   generalize cells[i] = cc at ex hci hca hnn hst
   have q : [x0, x1, x2, x3, x4] = [.int .i64 cc.row, .int .i64 cc.col, .int .i64 cc.rows, .int .i64 cc.cols, .int .i64 cc.inn] := ex
   simp only [List.cons.injEq, and_true] at q
   obtain ⟨rfl, rfl, rfl, rfl, rfl⟩ := q
   obtain ⟨a1, a2, a3, a4, a5⟩ := hci
   obtain ⟨ac, ha⟩ := Int.eq_ofNat_of_zero_le a1
   have HTEXT := Za (fun (W : World) (hb : Below w.heap.size w W) => Zi1 t A c A' c' cc W (HR.out.below hb) hca)
   have htz : (Qb t cc).size ≤ 1048576 := by
    obtain ⟨_, _, _, _, _, _, _, _, _, _, _, _, _, _, _, h⟩ := Zhz (HR.out.below (KW.out wr HGR2.out)) hca
    exact h
   have hnd : need cc = (if lb then Jq else Zac) (Qb t cc) := by rw [HND.out]
   generalize Qb t cc = tx at HTEXT htz hnd
   have HNN := Za (And.intro hnn a5)
   have HST := Za hst
   have HX := Za hci2
   have HNDC := Za hnd
   clear hst hnn hci2 ex hsm hca a5 hnd
   by_cases heq : cc.cols = (sp : Int)
   ·
    have heq1 : ((sp : Int) != (sp : Int)) = false := by simp
    rw [heq] at k3 HTEXT
    rw [ha] at k1 HTEXT
    go_upto_region 10 with fail
    have hap : ac + sp ≤ n := by omega
    obtain ⟨ae, hae⟩ : ∃ ae, ae = ac + sp := ⟨_, rfl⟩
    have hsa : ae - ac = sp := by omega
    have t1 : IntKind.i64.wrap ((ac : Int) + (sp : Int)) = (ae : Int) := by rw [IntKind.wrap_i64]; omega
    obtain ⟨C, hC⟩ : ∃ C, C = wr.heap.size := ⟨_, rfl⟩
    rw [← hC]
    generalize hW4 : wr.alloc _ = W4
    have hb4 : Below wr.heap.size wr W4 := by rw [← hW4]; exact Zc (Zf _) _
    have fC : Hid (Zh W4 C [.int .i64 cc.row, .int .i64 ac, .int .i64 cc.rows, .int .i64 sp, .int .i64 cc.inn]) := by
     show Zh _ _ _; rw [← hW4, hC]; exact Zh.new wr _ _
    have hC4 : C < W4.heap.size := by rw [← hW4, hC]; simp
    have hTr : T < wr.heap.size := by have := HGR2.out.size; omega
    have hgr9 : g9 < wr.heap.size := by have := HGR2.out.size; omega
    have fT : Hid (Zh W4 T [.slice A t.cols.length c, .int .i64 t.head, .int .i64 t.foot, .slice A' t.rows.length c', .int .i64 t.gap]) := (KT.out wr HGR2.out).keep (hb4.block T hTr)
    have HO4 : Hid (Zn W4 (T + 2) (.slice (some ⟨g9, 0, none⟩) n c9) X) := HO2.out.below hb4
    have HGR4 := Za (Zk HGR2.out (Qd hb4))
    have KWB := Za (step (KW.out wr HGR2.out) hb4)
    have hT4 : T < W4.heap.size := by have := hb4.size; omega
    have hgC : g9 < C := by omega
    have hTC : T < C := by omega
    obtain ⟨N, hN⟩ : ∃ N, need cc = N := ⟨_, rfl⟩
    have HNE := Za (HNDC.out.symm.trans hN)
    have HNN2 : Hid (0 ≤ N ∧ N ≤ 30) := by rw [← hN]; exact ⟨by have := HNN.out.1; rw [HND.out]; exact this, HNN.out.2⟩
    have HN := Za hN
    have HCC := Za hC
    clear hC hW4 hb4 k0 k1 k2 k3 k4 hg2' hN hae
    have fT0 := fT.out.1 0 _ rfl
    have fT1 := fT.out.1 1 _ rfl
    have fT2 := fT.out.1 2 _ rfl
    have fT3 := fT.out.1 3 _ rfl
    have fT4 := fT.out.1 4 _ rfl
    have fC0 := fC.out.1 0 _ rfl
    have fC1 := fC.out.1 1 _ rfl
    have fC2 := fC.out.1 2 _ rfl
    have fC3 := fC.out.1 3 _ rfl
    have fC4 := fC.out.1 4 _ rfl
    go_wp2_with fail
    refine (HTEXT.out W4 KWB.out).mono ?_
    rintro _ W5 ⟨rfl, hb5⟩
    have hs5 := hb5.size
    have fC5 := Za (fC.out.keep (hb5.block C hC4))
    have fT5 := Za (fT.out.keep (hb5.block T hT4))
    have HO5 : Hid (Zn W5 (T + 2) (.slice (some ⟨g9, 0, none⟩) n c9) X) := HO4.out.below hb5
    have HGR5 := Za (Zk HGR4.out (Qd hb5))
    have KWB5 := Za (step KWB.out hb5)
    clear fT0 fT1 fT2 fT3 fT4 fC0 fC1 fC2 fC3 fC4 hb5 fC fT HO4 HGR4 KWB
    go_wp2_with fail
    refine (Zmx tx W5 htz).mono ?_
    rintro _ W6 ⟨rfl, hw6⟩
    obtain rfl := hw6.symm
    go_upto_if 44 with fail
    go_cut [13] from 44 to 48 (fun s13 wx => s13 = .int .i64 N ∧ Below W5.heap.size W5 wx)
    case first =>
     cases lb with
     | false =>
      go_wp2_with fail
      go_meet
      case rel => exact ⟨by rw [← HNE.out]; rfl, Zf _⟩
     | true =>
      have fT0 := fT5.out.1 0 _ rfl
      have fT1 := fT5.out.1 1 _ rfl
      have fT2 := fT5.out.1 2 _ rfl
      have fT3 := fT5.out.1 3 _ rfl
      have fT4 := fT5.out.1 4 _ rfl
      have fC0 := fC5.out.1 0 _ rfl
      have fC1 := fC5.out.1 1 _ rfl
      have fC2 := fC5.out.1 2 _ rfl
      have fC3 := fC5.out.1 3 _ rfl
      have fC4 := fC5.out.1 4 _ rfl
      go_wp2_with fail
      refine (HTEXT.out W5 KWB5.out).mono ?_
      rintro _ W7 ⟨rfl, hb7⟩
      clear fT0 fT1 fT2 fT3 fT4 fC0 fC1 fC2 fC3 fC4
      go_wp2_with fail
      refine (Zku tx W7 htz).mono ?_
      rintro _ W8 ⟨rfl, hb8⟩
      go_wp2_with fail
      go_meet
      case rel => exact ⟨by rw [← HNE.out]; rfl, step hb7 hb8⟩
    case rest =>
    obtain ⟨rfl, hbc⟩ := hcut
    have hsc := hbc.size
    have hCc : C < wc.heap.size := by omega
    have fC := fC5.out.keep (hbc.block C (by omega))
    have fT := fT5.out.keep (hbc.block T (by omega))
    have HO6 : Hid (Zn wc (T + 2) (.slice (some ⟨g9, 0, none⟩) n c9) X) := HO5.out.below hbc
    have HGR6 := Za (Zk HGR5.out (Qd hbc))
    have FC := Za fC
    have FT := Za fT
    have fT4 := fT.1 4 _ rfl
    have fC1 := fC.1 1 _ rfl
    have fC3 := fC.1 3 _ rfl
    have hcc : n ≤ c9 := by
     obtain ⟨A9, k9, e9, h9, _⟩ := (HO6.out).rd
     rw [HX.out.1] at e9 h9
     injection e9 with _ _ e9
     omega
    have hwn := Zfo HX.out ac sp
    have hwl : ((X.drop ac).take sp).length = sp := Zg0 HX.out.1 (by omega)
    have hwb : ∀ x ∈ (X.drop ac).take sp, 0 ≤ x ∧ x ≤ 30 := fun x hx => HX.out.2 x (List.mem_of_mem_drop (List.mem_of_mem_take hx))
    have hws : Yk X ac sp ≤ 30 * (sp : Int) := by
     have := Zd4 (l := (X.drop ac).take sp) (m := 30) (fun x hx => (hwb x hx).2)
     rw [hwl] at this
     exact this
    have hrd := Zkj (HO6.out.at_rd) rfl ac sp
    rw [Nat.zero_add] at hrd
    have hsum : ∀ q, Calls Tryz.prog 96 #[.slice (some ⟨g9, ac, none⟩) sp (c9 - ac)] (wc.drewN q) fun e w' => e = .returned (.int .i64 (Yk X ac sp)) ∧ w' = wc.drewN q := fun q => by
     have h2 := Zay (some ⟨g9, ac, none⟩) (c9 - ac) ((X.drop ac).take sp) (wc.drewN q) (hrd.below (Zam (Zf _) q)) (fun x hx => by have := hwb x hx; omega) (by rw [hwl]; omega)
     rw [hwl] at h2
     exact h2
    have hst := HST.out
    unfold Zbw at hst
    rw [if_pos heq, ha, Int.toNat_natCast, HN.out] at hst
    have hnz := HNN2.out
    have HRD := Za hrd
    obtain ⟨Wn, hWn⟩ : ∃ Wn, Yk X ac sp = Wn := ⟨_, rfl⟩
    rw [hWn] at hst hwn hws hsum
    obtain ⟨gs, hgs⟩ : ∃ gs, t.gap * ((sp : Int) - 1) = gs := ⟨_, rfl⟩
    have hgs0 : 0 ≤ gs ∧ gs ≤ 9 := by
     rw [← hgs]
     refine ⟨Int.mul_nonneg hg.1 (by omega), ?_⟩
     have h1 : t.gap * ((sp : Int) - 1) ≤ 3 * ((sp : Int) - 1) := Int.mul_le_mul_of_nonneg_right hg.2 (by omega)
     omega
    rw [hgs] at hst
    have tw2 := IntWalk.i64_in ((sp : Int) - 1) (by omega)
    have tw3 : IntKind.i64.wrap (t.gap * ((sp : Int) - 1)) = gs := by rw [hgs, IntKind.wrap_i64]; omega
    have tw4 := IntWalk.i64_in (Wn + gs) (by omega)
    have tw5 := IntWalk.i64_in (N - (Wn + gs)) (by omega)
    have HWL := Za hwl
    have HWB := Za hwb
    have HST2 := Za hst
    have HSA := Za hsa
    have hae1 : ae ≤ c9 := by omega
    have hae2 : ac ≤ ae := by omega
    have hae3 : (ac : Int) ≤ (ae : Int) := by omega
    have hae4 : (ae : Int) ≤ (c9 : Int) := by omega
    have hna : ¬ c9 = ac := by omega
    rw [← hsa] at hsum
    have hsum : ∀ q, Calls Tryz.prog 96 #[.slice (some ⟨g9, ac, none⟩) (ae - ac) (c9 - ac)] (wc.drewN q) fun e w' => e = .returned (.int .i64 Wn) ∧ w' = wc.drewN q := hsum
    clear hst HST hWn hgs hwl hwb hrd fC fT hbc hsc HO5 HGR5 hsa
    go_wp2_with fail
    go_quiet (first | (go_at_call 96; refine Calls.quiet_of_same (hsum _)))
    have HO7 : Hid (Zn (wc.drewN nq) (T + 2) (.slice (some ⟨g9, 0, none⟩) n c9) X) := HO6.out.drewN nq
    have HGR7 : Hid (W3.grownBy (wc.drewN nq) (some g9)) := Zgi HGR6.out nq
    have FC7 : Hid (Zh (wc.drewN nq) C [.int .i64 cc.row, .int .i64 ac, .int .i64 cc.rows, .int .i64 sp, .int .i64 cc.inn]) := FC.out.keep ((Zam (Zf wc) nq).block C hCc)
    have HRD7 := Za (HRD.out.below (Zam (Zf wc) nq))
    have hC7 : C < (wc.drewN nq).heap.size := by have := (Zam (Zf wc) nq).size; omega
    clear HO6 HGR6 FC HRD fT4 fC1 fC3 hsum tw2 tw3 tw4
    generalize wc.drewN nq = W7 at HO7 HGR7 FC7 HRD7 hC7 ⊢
    by_cases hpos : Wn + gs < N
    ·
     have hst := HST2.out
     rw [if_pos (by omega)] at hst
     have hsh := Zdh (N - (Wn + gs)) (some ⟨g9, ac, none⟩) (c9 - ac) ((X.drop ac).take sp) W7 HRD7.out ⟨by omega, fun x hx => by have := HWB.out x hx; omega, by rw [HWL.out]; omega⟩ (by rw [HWL.out]; omega)
     obtain ⟨s1, s2, s3⟩ := Zaz (total := N - (Wn + gs)) (ws := (X.drop ac).take sp) (by omega) (fun x hx => (HWB.out x hx).1) (by intro e; have := HWL.out; rw [e] at this; simp at this; omega)
     rw [show N - Wn - gs = N - (Wn + gs) by omega] at hst
     rw [HWL.out] at hsh s1
     generalize Ye (N - (Wn + gs)) ((X.drop ac).take sp) = sh at hst hsh s1 s2 s3
     have hsb : ∀ x ∈ sh, 0 ≤ x ∧ x ≤ 30 := fun x hx => ⟨s3 x hx, by have := Zby s3 x hx; omega⟩
     have HST3 := Za hst
     have HSB := Za hsb
     have HSL := Za s1
     rw [← HSA.out] at hsh
     have fC1 := FC7.out.1 1 _ rfl
     have fC3 := FC7.out.1 3 _ rfl
     clear hst HST2 s1 s2 s3 hsb
     go_wp2_with fail
     refine hsh.mono ?_
     rintro _ W11 ⟨v, rfl, hOs, hb11⟩
     obtain ⟨gq, cq, rfl, hq1, hq2, _, _⟩ := hOs.at (by rw [HSL.out]; omega)
     rw [HSL.out]
     rw [HSL.out] at hOs
     have HOS := Za hOs
     have HGR8 := Za (Zk HGR7.out (Qd hb11))
     have HO8 : Hid (Zn W11 (T + 2) (.slice (some ⟨g9, 0, none⟩) n c9) X) := HO7.out.below hb11
     have FC8 : Hid (Zh W11 C [.int .i64 cc.row, .int .i64 ac, .int .i64 cc.rows, .int .i64 sp, .int .i64 cc.inn]) := FC7.out.keep (hb11.block C hC7)
     have hgq : C < gq := by omega
     have hC8 : C < W11.heap.size := by have := hb11.size; omega
     clear hOs hb11 hsh HO7 HGR7 FC7 fC1 fC3
     go_wp2_with fail
     go_loopg [16] sp (fun g3 s16 wr => ∃ j : Nat, s16 = .int .i64 j ∧ j ≤ sp ∧ sp - j ≤ g3 ∧ Aside (W11.grownBy wr (some g9)) ∧ Aside (Zn wr (T + 2) (.slice (some ⟨g9, 0, none⟩) n c9) (Qk X ac (sh.take j))))
     case atStart => exact ⟨0, rfl, Nat.zero_le _, by omega, Jk _ _, (show Aside _ from by show Zn _ _ _ _; rw [List.take_zero]; exact HO8.out)⟩
     obtain ⟨j, rfl, hjs, hgj, HG7, HO7⟩ := hrel
     clear HO8
     by_cases hlt3 : j < sp
     ·
      have hltz3 : (j : Int) < (sp : Int) := by omega
      have c0 := HOS.out.cell (j := j) (by rw [HSL.out]; exact hlt3)
      have c1 : wr.cell? ⟨gq, j, none⟩ = some (.int .i64 (sh.getD j 0)) := by
       rw [World.cell?_of_block (HG7.out.block gq hq2 (fun e => by injection e with e; omega))]
       exact c0
      have fC9 := (FC8.out.keep (HG7.out.block C hC8 (fun e => by injection e with e; omega))).1 1 _ rfl
      obtain ⟨p, hp⟩ : ∃ p, p = ac + j := ⟨_, rfl⟩
      have hxl : (Qk X ac (sh.take j)).length = n := by rw [Jj]; exact HX.out.1
      have c2 := HO7.out.cell (j := p) (by rw [hxl]; omega)
      have f2 := HO7.out.frozen p
      have hget := Zb1 (sh.take j) X ac p (by rw [HX.out.1]; simp; omega)
      rw [if_neg (by simp; omega), Int.add_zero] at hget
      have hxb := Zh2 HX.out p
      have hyb := Yn HSB.out j (by rw [HSL.out]; exact hlt3)
      have hsn := Zgl (sh.take j) (sh.getD j 0) X ac
      rw [Zb4 (by rw [HSL.out]; exact hlt3), List.length_take, HSL.out, Nat.min_eq_left (by omega), ← hp] at hsn
      rw [← hget] at hxb
      have hstore := fun y => HO7.out.store p y
      generalize sh.getD j 0 = y at c1 hyb hsn
      generalize (Qk X ac (sh.take j)).getD p 0 = x at c2 hxb hsn
      have t5 := IntWalk.i64_in (x + y) (by omega)
      have t6 : IntKind.i64.wrap ((ac : Int) + (j : Int)) = (p : Int) := by rw [IntKind.wrap_i64]; omega
      have hpz : (p : Int) < (n : Int) := by omega
      have HSN := Za hsn
      have HSTO := Za hstore
      clear c0 hxl hget hxb hyb hsn hp hstore
      go_wp2_with fail
      go_big_region
      go_wp2_with fail
      go_roundg (sp - (j + 1))
      case measure => omega
      case rel => exact ⟨j + 1, by go_num, by omega, by omega, Zl0 (Zk HG7.out (Qt _ rfl _)), (show Aside _ from by rw [HSN.out]; exact Qx (HSTO.out (x + y)) (Zt (Zf _)))⟩
     have hltz3 : ¬ (j : Int) < (sp : Int) := by omega
     have hO := HO7.out
     rw [List.take_of_length_le (by rw [HSL.out]; omega), ← HST3.out] at hO
     have HO8 := Za hO
     clear hO HO7
     go_wp2_with fail
     go_roundg (cells.length - (i + 1))
     case measure => omega
     case rel => exact ⟨i + 1, by go_num, by omega, by omega, Zk HGR8.out HG7.out, HO8.out⟩
    have hst := HST2.out
    rw [if_neg (by omega)] at hst
    have HST3 := Za hst
    clear hst HST2
    go_wp2_with fail
    go_roundg (cells.length - (i + 1))
    case measure => omega
    case rel => exact ⟨i + 1, by go_num, by omega, by omega, HGR7.out, (show Aside _ from by rw [HST3.out]; exact HO7.out)⟩
   have heq1 : (cc.cols != (sp : Int)) = true := by simpa using heq
   have hst := HST.out
   unfold Zbw at hst
   rw [if_neg heq] at hst
   have HST2 := Za hst
   have HGR4 := Za (fun (o : Obj) => Zk HGR2.out (Qd (Zc (Zf wr) o)))
   have HO4 : Hid (∀ o : Obj, Zn (wr.alloc o) (T + 2) (.slice (some ⟨g9, 0, none⟩) n c9) X) := fun o => HO2.out.below (Zc (Zf _) _)
   clear hst HST
   go_wp2_with fail
   go_roundg (cells.length - (i + 1))
   case measure => omega
   case rel => exact ⟨i + 1, by go_num, by omega, by omega, HGR4.out _, (show Aside _ from by rw [HST2.out]; exact HO4.out _)⟩
  have hltz2 : ¬ (i : Int) < (cells.length : Int) := by omega
  have hO := HO2.out
  rw [List.take_of_length_le (by omega), HSP.out] at hO
  have HO3 : Hid (Zn wr (T + 2) (.slice (some ⟨g9, 0, none⟩) n c9) (Zbr t.gap need cells n (k + 1))) := hO
  have t1 : IntKind.i64.wrap ((sp : Int) + 1) = ((k + 1 + 1 : Nat) : Int) := by rw [IntKind.wrap_i64]; have := HSP.out; omega
  clear hO HO2
  go_wp2_with fail
  go_roundg (4 - (k + 1))
  case measure => omega
  case rel => exact ⟨k + 1, by have := HSP.out; subst this; first | rfl | go_num, by omega, by omega, HGR2.out, HO3.out⟩
 have hltz : ¬ (sp : Int) ≤ 4 := by omega
 have hk4 : k = 4 := by omega
 subst hk4
 go_wp2_with fail
 go_ret
 refine ⟨_, rfl, ?_, KW.out wr HGR.out⟩
 rw [← Zi2]
 exact HO.out.base (by have := HTT.out; omega)
def Zmu (t : Tbl) (c : Zl) : Qi := (t.rows.getD c.row.toNat default).cs.getD c.inn.toNat default
def Zj1 (t : Tbl) (c : Zl) : Prop := Zaq t c ∧ c.cols = (Zmu t c).c
theorem Zqd (m : Nat) (t : Tbl) (r : Nat) : ∀ (xs : List Qi) (i : Nat) (S : List Zl × Int), (∀ c ∈ S.1, Zj1 t c) → r < t.rows.length →
 xs = (t.rows.getD r default).cs.drop i → ∀ c ∈ (Jf m t r xs i S).1, Zj1 t c := by
 intro xs
 induction xs with
 | nil => intro i S h _ _; exact h
 | cons x xs ih =>
  intro i S h hr hi
  have hlt : i < (t.rows.getD r default).cs.length := by
   have := congrArg List.length hi
   simp only [List.length_cons, List.length_drop] at this
   omega
  have hx : (t.rows.getD r default).cs.getD i default = x := by
   have h0 := congrArg (fun l => l.getD 0 default) hi
   simp only [List.getD_cons_zero, List.getD_eq_getElem?_getD, List.getElem?_drop, Nat.add_zero] at h0
   rw [List.getD_eq_getElem?_getD]
   exact h0.symm
  have hd2 : xs = (t.rows.getD r default).cs.drop (i + 1) := by
   have h0 := congrArg (List.drop 1) hi
   simpa only [List.drop_drop, List.drop_succ_cons, List.drop_zero, Nat.add_comm] using h0
  refine ih (i + 1) _ ?_ hr hd2
  intro c hc
  rcases List.mem_append.mp hc with hc | hc
  · exact h c hc
  obtain rfl : c = _ := List.mem_singleton.mp hc
  refine ⟨⟨⟨Int.natCast_nonneg r, Int.ofNat_lt.mpr hr⟩, Int.natCast_nonneg i, ?_⟩, ?_⟩
  · show (i : Int) < ((t.rows.getD ((r : Int)).toNat default).cs.length : Int)
    rw [Int.toNat_natCast]
    omega
  show x.c = ((t.rows.getD ((r : Int)).toNat default).cs.getD ((i : Int)).toNat default).c
  rw [Int.toNat_natCast, Int.toNat_natCast, hx]
theorem Zru (m : Nat) (t : Tbl) : ∀ (ys : List Jv) (r : Nat) (S : List Zl × Int), (∀ c ∈ S.1, Zj1 t c) → ys = t.rows.drop r →
 ∀ c ∈ (Yy m t ys r S).1, Zj1 t c := by
 intro ys
 induction ys with
 | nil => intro r S h _; exact h
 | cons y ys ih =>
  intro r S h hd
  have hr : r < t.rows.length := by
   have := congrArg List.length hd
   simp only [List.length_cons, List.length_drop] at this
   omega
  have hy : t.rows.getD r default = y := by
   have h0 := congrArg (fun l => l.getD 0 default) hd
   simp only [List.getD_cons_zero, List.getD_eq_getElem?_getD, List.getElem?_drop, Nat.add_zero] at h0
   rw [List.getD_eq_getElem?_getD]
   exact h0.symm
  have hd2 : ys = t.rows.drop (r + 1) := by
   have h0 := congrArg (List.drop 1) hd
   simpa [List.drop_drop, Nat.add_comm] using h0
  exact ih (r + 1) _ (Zqd m t r y.cs 0 S h hr (by rw [hy]; rfl)) hd2
theorem Zt4 (m : Nat) (t : Tbl) : ∀ c ∈ (Zp m t).1, Zj1 t c :=
 Zru m t t.rows 0 (Zad t) (fun c hc => absurd hc (by simp [Zad])) (by simp)
theorem Zhd (m : Nat) (t : Tbl) (r : Nat) : ∀ (xs : List Qi) (i : Nat) (S : List Zl × Int), S.2 ≤ (Jf m t r xs i S).2
 | [], _, _ => Int.le_refl _
 | x :: xs, i, S => Int.le_trans (show S.2 ≤ max S.2 _ from Int.le_max_left ..) (Zhd m t r xs (i + 1) _)
theorem Zft (m : Nat) (t : Tbl) : ∀ (ys : List Jv) (r : Nat) (S : List Zl × Int), S.2 ≤ (Yy m t ys r S).2
 | [], _, _ => Int.le_refl _
 | y :: ys, r, S => Int.le_trans (Zhd m t r y.cs 0 S) (Zft m t ys (r + 1) _)
theorem Zl4 : ∀ (ys : List Jv), (∀ y ∈ ys, y.cs.length ≤ 5) → Zih ys ≤ 5 * ys.length
 | [], _ => Nat.le_refl _
 | y :: ys, h => by
  have h1 := h y (List.mem_cons_self ..)
  have h2 := Zl4 ys (fun z hz => h z (List.mem_cons_of_mem _ hz))
  simp only [Zih, List.length_cons]
  omega
theorem Zr8 {s : ByteArray} (h : Zcj s = true) : s.size ≤ 30 := by
 unfold Zcj Zhx at h
 rcases Bool.or_eq_true_iff.mp h with h | h
 ·
  have : s.data.toList = [] := List.isEmpty_iff.mp h
  have : s.data.toList.length = 0 := by rw [this]; rfl
  simp at this
  have h2 : s.size = s.data.size := rfl
  rw [h2, this]; decide
 have := (Bool.and_eq_true_iff.mp h).2
 have := of_decide_eq_true this
 simpa using this
theorem Zhs (s : ByteArray) : 0 ≤ Zac s ∧ Zac s ≤ s.size := by
 unfold Zac; split <;> omega
theorem Za2 {t : Tbl} (h : Qn t = true) {k : Nat} (hy : ∀ (j : Nat) (hj : j < t.rows.length), t.rows[j].cs.length ≤ (if j = k then 5 else 4) ∧ ∀ x ∈ t.rows[j].cs, x.r ≠ 4) (m : Nat)
 {nd : ByteArray → Int} (hnd : ∀ s, 0 ≤ nd s ∧ nd s ≤ s.size) :
 ∃ n : Nat, (Zp m t).2 = n ∧ (1 ≤ n ∧ n ≤ 90) ∧ (∀ x ∈ (Zp m t).1, Zas n (fun c => nd (Qb t c)) x ∧ Zaq t x ∧ 0 ≤ nd (Qb t x)) ∧ (Zp m t).1.length ≤ 40 := by
 have hlo : 1 ≤ (Zp m t).2 := Int.le_trans (show (1 : Int) ≤ max (t.cols.length : Int) 1 from Int.le_max_right ..) (Zft m t t.rows 0 (Zad t))
 have hup : (Zp m t).2 < 90 := Zdg.rows m t t.rows 0 (Zmh h hy).1 (Zmh h hy).2
 have hp := Zx h
 refine ⟨(Zp m t).2.toNat, by omega, by omega, fun x hx => ?_, ?_⟩
 ·
  have hat := Zt4 m t x hx
  have hin := Zfv h m x hx
  have hrow : t.rows.getD x.row.toNat default ∈ t.rows := by
   have : x.row.toNat < t.rows.length := by have := hat.1.1; omega
   rw [List.getD_eq_getElem?_getD, List.getElem?_eq_getElem this]; exact List.getElem_mem this
  have hce : Zmu t x ∈ (t.rows.getD x.row.toNat default).cs := by
   have : x.inn.toNat < (t.rows.getD x.row.toNat default).cs.length := by have := hat.1.2; omega
   unfold Zmu
   rw [List.getD_eq_getElem?_getD (l := (t.rows.getD x.row.toNat default).cs), List.getElem?_eq_getElem this]; exact List.getElem_mem this
  have hck := (hp.2.2.2.2.2.2 _ hrow).2 _ hce
  have h4 := (Zag hck).1.2
  have hs : Zcj (Qb t x) = true := by
   have h0 := hck
   unfold Zax at h0
   exact (Bool.and_eq_true_iff.mp h0).1
  have h30 := Zr8 hs
  have hn := hnd (Qb t x)
  refine ⟨⟨hin.col, hin.cols, by rw [hat.2]; exact h4, by have := hin.right; omega, ?_⟩, hat.1, hn.1⟩
  show nd (Qb t x) ≤ 30
  omega
 rw [Zsu]
 have := Zl4 t.rows (fun y hyy => (hp.2.2.2.2.2.2 y hyy).1)
 have := hp.1.2
 omega
def Jm (f : Nat → Int → Int) (i : Nat) (X : List Int) : List Int := X.mapIdx fun j x => if j < i then f j x else x
theorem Zal (f : Nat → Int → Int) (i : Nat) (X : List Int) : (Jm f i X).length = X.length := by simp [Jm]
theorem Zcr (f : Nat → Int → Int) (X : List Int) : Jm f 0 X = X := by
 apply List.ext_getElem (by simp [Jm])
 intro j h1 h2
 simp [Jm]
theorem Zer (f : Nat → Int → Int) (i : Nat) (X : List Int) : (Jm f i X).getD i 0 = X.getD i 0 := by
 simp only [Jm, List.getD_eq_getElem?_getD, List.getElem?_mapIdx]
 cases X[i]? <;> simp
theorem Zdj (f : Nat → Int → Int) (i : Nat) (X : List Int) (h : i < X.length) : (Jm f i X).set i (f i (X.getD i 0)) = Jm f (i + 1) X := by
 apply List.ext_getElem (by simp [Jm])
 intro j h1 h2
 have hj : j < X.length := by simpa [Jm] using h2
 rw [List.getElem_set]
 simp only [Jm, List.getElem_mapIdx]
 by_cases e : i = j
 · subst e; simp [List.getD_eq_getElem?_getD, hj]
 rw [if_neg e]
 by_cases l : j < i
 · rw [if_pos l, if_pos (by omega)]
 rw [if_neg l, if_neg (by omega)]
theorem Ze1 (f : Nat → Int → Int) (i : Nat) (X : List Int) (h : f i (X.getD i 0) = X.getD i 0) : Jm f (i + 1) X = Jm f i X := by
 apply List.ext_getElem (by simp [Jm])
 intro j h1 h2
 have hj : j < X.length := by simpa [Jm] using h2
 simp only [Jm, List.getElem_mapIdx]
 by_cases e : j = i
 · subst e
   rw [if_pos (by omega), if_neg (by omega)]
   simpa [List.getD_eq_getElem?_getD, hj] using h
 by_cases l : j < i
 · rw [if_pos l, if_pos (by omega)]
 rw [if_neg l, if_neg (by omega)]
theorem Zrr (f : Nat → Int → Int) (i : Nat) (X : List Int) (h : ∀ j x, i ≤ j → f j x = x) : Jm f i X = X.mapIdx f := by
 apply List.ext_getElem (by simp [Jm])
 intro j h1 h2
 simp only [Jm, List.getElem_mapIdx]
 by_cases l : j < i
 · rw [if_pos l]
 rw [if_neg l, h j _ (by omega)]
def Zbb (t : Tbl) (i : Nat) (x : Int) : Int := if (Yc t i).k = 1 then max x (Yc t i).n else x
def Yf (t : Tbl) (cells : List Zl) (n : Nat) : List Int := (made t.gap (fun c => Jq (Qb t c)) cells n).mapIdx (Zbb t)
theorem Zrn (t : Tbl) (j : Nat) (x : Int) (h : t.cols.length ≤ j) : Zbb t j x = x := by
 unfold Zbb; rw [Zg2 t j (by omega)]; simp
theorem Zo8 : Zo7 207 Jq := ⟨enters_of Tryz.func207 (by kernel_rfl) rfl, fun s W h hB => Zk6 s W h hB⟩
theorem Zrz : Zo7 208 Zac := ⟨enters_of Tryz.func208 (by kernel_rfl) rfl, fun s W h hB => Zm0 s W h hB⟩
theorem Zj4 (t : Tbl) (A : Option Addr) (c : Nat) (A' : Option Addr) (c' : Nat) (gr : Int) (n : Nat) (cells : List Zl) (GA : Option Addr) (gc : Nat) (w : World) (hw : Zb9 w) (hc : Rd Zbz w A t.cols) (hr : Rd Zbp w A' t.rows) (hG : Rd gcR w GA cells)
 (hg : 0 ≤ t.gap ∧ t.gap ≤ 3) (hn : 1 ≤ n ∧ n ≤ 1000) (hcell : ∀ x ∈ cells, Zas n (fun c => Jq (Qb t c)) x ∧ Zaq t x ∧ 0 ≤ Jq (Qb t x)) (hcl : cells.length ≤ 1000) (htc : t.cols.length ≤ n) :
 Calls Tryz.prog 157 #[.agg #[.slice A t.cols.length c, .int .i64 t.head, .int .i64 t.foot, .slice A' t.rows.length c', .int .i64 t.gap], .agg #[.int .i64 gr, .int .i64 n, .slice GA cells.length gc]] w fun e w' => ∃ v, e = .returned v ∧ Zn w' w.heap.size v (Yf t cells n) ∧ Below w.heap.size w w' := by
 have hM := fun (W : World) (h : Below w.heap.size w W) => Zly t A c A' c' gr n cells GA gc 207 Jq W (hw.below h) (hr.below h) (hG.below h) Zo8 hg hn hcell hcl
 have hlen : (made t.gap (fun c => Jq (Qb t c)) cells n).length = n := (Zb3 hg.1 (fun x hx => (hcell x hx).1)).1.1
 have HC := Za hc
 generalize hX : made t.gap (fun c => Jq (Qb t c)) cells n = X at hM hlen
 have HX := Za hX
 have HL := Za hlen
 clear hw hc hr hG hcell hX hlen
 go_enter Tryz.func157, Tryz.ntmps157
 go_wp2_with fail
 refine (hM _ (Zc (Zc (Zf _) _) _)).mono ?_
 rintro e w1 ⟨v, rfl, hO, hb⟩
 obtain ⟨c0, f0, s0⟩ := Jc w.heap.size (by first | (simp; omega) | simp [*]) hb
 obtain ⟨c1, f1, s1⟩ := Jc (w.heap.size + 1) (by first | (simp; omega) | simp [*]) hb
 have hb2 := Za (step (Zc (Zc (Zf _) _) _) hb)
 obtain ⟨g, cc, rfl, hg1, hg2, _, _⟩ := hO.at (by rw [HL.out]; exact hn.1)
 have hgw : w.heap.size ≤ g := by simp at hg1; omega
 rw [HL.out]
 rw [HL.out] at hO
 have HO := Za (hO.base (base' := w.heap.size) (by simp; omega))
 clear hO hb hg1 hg2 hM
 have hmax := Zdc
 go_wp2_with fail
 go_loopg [6, 7, 14] t.cols.length (fun gg s6 s7 s14 wr => ∃ kk : Nat, kk ≤ t.cols.length ∧ t.cols.length - kk ≤ gg ∧ s14 = .int .i64 kk ∧ Aside (Below w.heap.size w wr) ∧ Aside (Zn wr w.heap.size (.slice (some ⟨g, 0, none⟩) n cc) (Jm (Zbb t) kk X)))
 case atStart => exact ⟨0, Nat.zero_le _, by omega, rfl, hb2.out, (show Aside _ from by rw [Zcr]; exact HO.out)⟩
 obtain ⟨kk, hkk, hgg, rfl, HB, HM⟩ := hrel
 by_cases hlt : kk < t.cols.length
 ·
  have hltz : (kk : Int) < (t.cols.length : Int) := by omega
  obtain ⟨b, o, q0, q1, rfl, hblt, hK, e0, e1⟩ := HC.out.at2 rfl HB.out kk hlt
  have q : [q0, q1] = [.int .i64 t.cols[kk].k, .int .i64 t.cols[kk].n] := hK
  simp only [List.cons.injEq, and_true] at q
  obtain ⟨rfl, rfl⟩ := q
  clear hK
  have hsd := Zh5 t kk hlt
  have hS : Zbb t kk = fun x => if t.cols[kk].k = 1 then max x t.cols[kk].n else x := by
   funext x; unfold Zbb; rw [hsd]
  have HS := Za hS
  clear hS hsd
  generalize t.cols[kk].k = k0 at e0 HS
  generalize t.cols[kk].n = n0 at e1 HS
  have hml : kk < (Jm (Zbb t) kk X).length := by rw [Zal, HL.out]; omega
  by_cases h1 : k0 = 1
  ·
   have h1z : (k0 == 1) = true := by simp [h1]
   have cm := HM.out.cell (j := kk) hml
   have fm := HM.out.frozen kk
   rw [Zer] at cm
   have hst := HM.out.store kk (Zbb t kk (X.getD kk 0))
   rw [Zdj _ _ _ (by rw [HL.out]; omega), congrFun HS.out, if_pos h1] at hst
   have HST := Za hst
   generalize X.getD kk 0 = y at cm HST
   clear hst hml
   have hgl : g < wr.heap.size := by
    obtain ⟨g', c2, e, _, h2, _⟩ := HM.out.at (by rw [Zal, HL.out]; omega)
    injection e with e; injection e with e; injection e with e; omega
   have hgn : ¬ wr.heap.size = g := by omega
   have hgn2 : ¬ g = wr.heap.size := by omega
   have hkn : (kk : Int) < (n : Int) := by omega
   go_wp2_with fail
   go_big_region
   go_wp2_with fail
   go_roundg (t.cols.length - (kk + 1))
   case measure => omega
   case rel => exact ⟨kk + 1, by omega, by omega, by go_num, (show Aside _ from Zt (Zc (Yi HB.out (by show w.heap.size ≤ g; omega) _) _)), (show Aside _ from HST.out.below (Zt (Zc (Zf _) _)))⟩
  have h1z : (k0 == 1) = false := by simp [h1]
  have HK := Za (Ze1 (Zbb t) kk X (by rw [congrFun HS.out, if_neg h1]))
  clear h1
  go_wp2_with fail
  go_roundg (t.cols.length - (kk + 1))
  case measure => omega
  case rel => exact ⟨kk + 1, by omega, by omega, by go_num, (show Aside _ from Zc HB.out _), (show Aside _ from by rw [HK.out]; exact HM.out.below (Zc (Zf _) _))⟩
 have hltz : ¬ (kk : Int) < (t.cols.length : Int) := by omega
 have HK := Za (show Jm (Zbb t) kk X = Yf t cells n by
  rw [Zrr _ _ _ (fun j x hj => Zrn t j x (by omega))]; unfold Yf; rw [HX.out])
 go_wp2_with fail
 go_ret
 exact ⟨_, rfl, by rw [← HK.out]; exact HM.out, HB.out⟩
def Yz (m : Nat) (t : Tbl) : List Int := if Qn t = true then Yf t (Zp m t).1 (Zp m t).2.toNat else []
theorem Zeu (m : Nat) (t : Tbl) : (t.cols.length : Int) ≤ (Zp m t).2 :=
 Int.le_trans (show (t.cols.length : Int) ≤ max (t.cols.length : Int) 1 from Int.le_max_left ..) (Zft m t t.rows 0 (Zad t))
theorem Zmr {w : World} {base c : Nat} {A : Option Addr} {xs : List Zl} (h : w.ownsRow base 43 5 (.slice A xs.length c) xs.length (xs.flatMap gcE)) (hx : ∀ x ∈ xs, GSm x) : Rd gcR w A xs := by
 obtain ⟨Ao, co, eo, _, ro⟩ := Zdz (enc := gcE) (hk := fun _ => rfl) h
 injection eo with e1 _ _
 rw [e1]
 exact Zh1 (d := Zg9 5 gcE (fun _ => rfl)) (d' := gcR) rfl (fun a ha cs h => ⟨h, hx a ha⟩) ro
end Go.Proofs.YtgdmcmicfoamlaaGreatDoor
