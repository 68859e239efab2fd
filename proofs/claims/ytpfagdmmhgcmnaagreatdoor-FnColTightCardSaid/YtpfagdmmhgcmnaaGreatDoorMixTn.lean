import Derived.Test.YtpfagdmmhgcmnaaGreatDoorMixTm
import Derived.Test.YtpfagdmmhgcmnaaGreatDoorMixW
import Derived.Test.YtpfagdmmhgcmnaaGreatDoorMixSa
set_option linter.unusedVariables false
set_option linter.unusedSimpArgs false
namespace Go.Proofs.YtpfagdmmhgcmnaaGreatDoor
open Go.RowKit
set_option maxRecDepth 100000 in
set_option maxHeartbeats 4000000 in
theorem spec_l5Text (t : Tbl) (A : Option Addr) (c : Nat) (A' : Option Addr) (c' : Nat) (x : GCell) (w : World) (hr : Rd rowR w A' t.rows) (h : CellAt t x) :
  Calls Tryz.prog 141 #[.agg #[.slice A t.cols.length c, .int .i64 t.head, .int .i64 t.foot, .slice A' t.rows.length c', .int .i64 t.gap], .agg #[.int .i64 x.row, .int .i64 x.col, .int .i64 x.rows, .int .i64 x.cols, .int .i64 x.inn]] w fun e w' => e = .returned (.string (textOf t x)) ∧ Below w.heap.size w w' := by
 obtain ⟨rb, ro, bx, ox, mx, cx, r, tq, hAe, er, eq2, hrl, hql, fa, fb, htx⟩ := text_at hr h
 subst hAe
 rw [er, eq2]
 generalize textOf t x = tx at fb htx ⊢
 have hrz : (r : Int) < (t.rows.length : Int) := by omega
 have hqz : (tq : Int) < (mx : Int) := by omega
 have hl1 := World.block_lt_of_cell? w _ fa
 have hl2 := World.block_lt_of_cell? w _ fb
 have gl1 : rb < w.heap.size := hl1
 have gl2 : bx < w.heap.size := hl2
 have gl3 : rb < w.heap.size + 1 := by omega
 have gl4 : bx < w.heap.size + 1 := by omega
 clear hr h hl1 hl2 hrl hql
 go_enter Tryz.func141, Tryz.ntmps141
 go_wp2_with fail
 go_quiet (fail)
 go_wp2_with fail
 go_ret
 exact ⟨rfl, bdrewN (balloc (balloc (brefl _) _) _) _⟩
set_option maxRecDepth 100000 in
set_option maxHeartbeats 4000000 in
theorem laws_pwText (t : Tbl) (A : Option Addr) (c : Nat) (A' : Option Addr) (c' : Nat) (x : GCell) (w : World) (hr : Rd rowR w A' t.rows) (h : CellAt t x) :
  Calls Tryz.prog 24 #[.agg #[.slice A t.cols.length c, .int .i64 t.head, .int .i64 t.foot, .slice A' t.rows.length c', .int .i64 t.gap], .agg #[.int .i64 x.row, .int .i64 x.col, .int .i64 x.rows, .int .i64 x.cols, .int .i64 x.inn]] w fun e w' => e = .returned (.string (textOf t x)) ∧ Below w.heap.size w w' := by
 obtain ⟨rb, ro, bx, ox, mx, cx, r, tq, hAe, er, eq2, hrl, hql, fa, fb, htx⟩ := text_at hr h
 subst hAe
 rw [er, eq2]
 generalize textOf t x = tx at fb htx ⊢
 have hrz : (r : Int) < (t.rows.length : Int) := by omega
 have hqz : (tq : Int) < (mx : Int) := by omega
 have hl1 := World.block_lt_of_cell? w _ fa
 have hl2 := World.block_lt_of_cell? w _ fb
 have gl1 : rb < w.heap.size := hl1
 have gl2 : bx < w.heap.size := hl2
 have gl3 : rb < w.heap.size + 1 := by omega
 have gl4 : bx < w.heap.size + 1 := by omega
 clear hr h hl1 hl2 hrl hql
 go_enter Tryz.func24, Tryz.ntmps24
 go_wp2_with fail
 go_quiet (fail)
 go_wp2_with fail
 go_ret
 exact ⟨rfl, bdrewN (balloc (balloc (brefl _) _) _) _⟩
set_option maxHeartbeats 2000000 in
theorem spec_l5Zero (gr : Int) (n : Nat) (cells : List GCell) (GA : Option Addr) (gc : Nat) (w : World) (hn : n ≤ 1000000) :
  Calls Tryz.prog 103 #[.agg #[.int .i64 gr, .int .i64 n, .slice GA cells.length gc]] w fun e w' => ∃ v, e = .returned v ∧ IOwn w' w.heap.size v (List.replicate n 0) ∧ Below w.heap.size w w' := by
 have hmk := make_eq (P := Tryz.prog) (z := .int .i64 0) (k := 1) (bytes := 8) und_ints info_ints n (by omega) (by omega)
 have m := made_ints (w.alloc (.cells #[.int .i64 gr, .int .i64 n, .slice GA cells.length gc] 35)) w.heap.size n (by simp) hn
 rw [Nat.mul_one] at m
 have M : Hid (IOwn ((w.alloc (.cells #[.int .i64 gr, .int .i64 n, .slice GA cells.length gc] 35)).alloc (.cells (madeCells #[Value.int .i64 0] n) 3)) w.heap.size (.slice (some ⟨w.heap.size + 1, 0, none⟩) n n) (List.replicate n 0)) := by
  have e1 : (w.alloc (.cells #[.int .i64 gr, .int .i64 n, .slice GA cells.length gc] 35)).heap.size = w.heap.size + 1 := by simp
  rw [e1] at m
  exact m
 clear m
 go_enter Tryz.func103, Tryz.ntmps103
 go_wp2_with fail
 go_ret
 exact ⟨_, rfl, M.out, balloc (balloc (brefl _) _) _⟩
set_option maxRecDepth 100000 in
set_option maxHeartbeats 20000000 in
theorem spec_l5Need (t : Tbl) (A : Option Addr) (c : Nat) (A' : Option Addr) (c' : Nat) (gr : Int) (n : Nat) (cells : List GCell) (GA : Option Addr) (gc : Nat) (lb : Bool) (FA : Option Addr) (fc : Nat) (w : World) (hr : Rd rowR w A' t.rows) (hG : Rd gcR w GA cells) (hZ : Rd intR w FA (List.replicate n 0))
  (hg : 0 ≤ t.gap ∧ t.gap ≤ 3) (hn : 1 ≤ n ∧ n ≤ 1000) (hcell : ∀ x ∈ cells, CellIn n (fun c => (if lb then leastT else wishT) (textOf t c)) x ∧ CellAt t x ∧ 0 ≤ (if lb then leastT else wishT) (textOf t x)) (hcl : cells.length ≤ 1000) :
  Calls Tryz.prog 102 #[.agg #[.slice A t.cols.length c, .int .i64 t.head, .int .i64 t.foot, .slice A' t.rows.length c', .int .i64 t.gap], .agg #[.int .i64 gr, .int .i64 n, .slice GA cells.length gc], .bool lb, .slice FA n fc] w fun e w' => ∃ v, e = .returned v ∧ IOwn w' w.heap.size v (made t.gap (fun c => (if lb then leastT else wishT) (textOf t c)) cells n) ∧ Below w.heap.size w w' := by
 obtain ⟨fb0, fo0, hFA, _, _⟩ := hZ.2 (by intro e; have := congrArg List.length e; simp at this; omega)
 subst hFA
 have HR := hide hr
 have HG := hide hG
 have HC := hide hcell
 have HZ := hide hZ
 clear hr hG hcell hZ
 obtain ⟨need, hneed⟩ : ∃ f : GCell → Int, f = fun c => (if lb then leastT else wishT) (textOf t c) := ⟨_, rfl⟩
 rw [← hneed] at HC ⊢
 have HND := hide hneed
 clear hneed
 obtain ⟨i0, hi, hz0, hz1, hz2⟩ := info_parts info_ints
 have HE : Hid ((((w.alloc (.cells #[.slice A t.cols.length c, .int .i64 t.head, .int .i64 t.foot, .slice A' t.rows.length c', .int .i64 t.gap] 26)).alloc (.cells #[.int .i64 gr, .int .i64 n, .slice GA cells.length gc] 35)).alloc (.cells #[] 3)).ownsRow (w.heap.size + 2) 3 1 (.slice (some ⟨w.heap.size + 1 + 1, 0, none⟩) 0 0) 0 []) := by
  have e2 : ((w.alloc (.cells #[.slice A t.cols.length c, .int .i64 t.head, .int .i64 t.foot, .slice A' t.rows.length c', .int .i64 t.gap] 26)).alloc (.cells #[.int .i64 gr, .int .i64 n, .slice GA cells.length gc] 35)).heap.size = w.heap.size + 1 + 1 := by simp
  have := World.ownsRow_made ((w.alloc (.cells #[.slice A t.cols.length c, .int .i64 t.head, .int .i64 t.foot, .slice A' t.rows.length c', .int .i64 t.gap] 26)).alloc (.cells #[.int .i64 gr, .int .i64 n, .slice GA cells.length gc] 35)) #[] 0 (Nat.le_of_eq e2.symm) (Nat.zero_le _) (by simp) (e := 3) (size := 1)
  rw [e2] at this
  exact this
 go_enter Tryz.func102, Tryz.ntmps102
 go_upto_region 2 with (at_builtin; refine wpList_append_own _ rfl (.tmp 17) (.tmp 18) 28 rfl (w.heap.size + 2) 3 i0 _ 1 8 und_ints hi hz0 hz1 hz2 rfl (by decide) (.slice (some ⟨w.heap.size + 1 + 1, 0, none⟩) 0 0) 0 [] rfl HE.out ⟨fb0, fo0, none⟩ n fc ((List.replicate n (0 : Int)).flatMap intE) rfl ?qc1 ?qc2 ?qc3 ?qc4 ?qc5 ?qc6 ?_)
 case qc1 => rw [flatMap_length intE 1 (fun _ => rfl), List.length_replicate]
 case qc2 => exact rd_cells HZ.out (balloc (balloc (balloc (brefl _) _) _) _)
 case qc3 => exact ints_one _
 case qc4 => unfold maxLen; omega
 case qc5 => omega
 case qc6 => simp
 intro v' W3 hown hgrow _
 obtain ⟨T, hT⟩ : ∃ T, T = w.heap.size := ⟨_, rfl⟩
 have hO3 : IOwn W3 (T + 2) v' (List.replicate n 0) := by
  unfold IOwn
  rw [List.length_replicate, hT]
  simpa using hown
 obtain ⟨g9, c9, rfl, hg9, hg9l, _, _⟩ := hO3.at (by simp; omega)
 rw [List.length_replicate] at hO3 ⊢
 have FW : Hid (BlockAt W3 T [.slice A t.cols.length c, .int .i64 t.head, .int .i64 t.foot, .slice A' t.rows.length c', .int .i64 t.gap] ∧ BlockAt W3 (T + 1) [.int .i64 gr, .int .i64 n, .slice GA cells.length gc] ∧ IOwn W3 (T + 2) (.slice (some ⟨g9, 0, none⟩) n c9) (List.replicate n 0) ∧ Below w.heap.size w W3) := by
  subst hT
  have e1 : (w.alloc (.cells #[.slice A t.cols.length c, .int .i64 t.head, .int .i64 t.foot, .slice A' t.rows.length c', .int .i64 t.gap] 26)).heap.size = w.heap.size + 1 := by simp
  have e2 : ((w.alloc (.cells #[.slice A t.cols.length c, .int .i64 t.head, .int .i64 t.foot, .slice A' t.rows.length c', .int .i64 t.gap] 26)).alloc (.cells #[.int .i64 gr, .int .i64 n, .slice GA cells.length gc] 35)).heap.size = w.heap.size + 1 + 1 := by simp
  have m1 := BlockAt.new w [.slice A t.cols.length c, .int .i64 t.head, .int .i64 t.foot, .slice A' t.rows.length c', .int .i64 t.gap] 26
  have m2 := BlockAt.new (w.alloc (.cells #[.slice A t.cols.length c, .int .i64 t.head, .int .i64 t.foot, .slice A' t.rows.length c', .int .i64 t.gap] 26)) [.int .i64 gr, .int .i64 n, .slice GA cells.length gc] 35
  rw [e1] at m2
  have k1 : ∀ B, B < w.heap.size + 2 → W3.heap[B]? = (((w.alloc (.cells #[.slice A t.cols.length c, .int .i64 t.head, .int .i64 t.foot, .slice A' t.rows.length c', .int .i64 t.gap] 26)).alloc (.cells #[.int .i64 gr, .int .i64 n, .slice GA cells.length gc] 35)).alloc (.cells #[] 3)).heap[B]? := fun B hB => hgrow.block B (by simp; omega) (fun e => by simp [Value.ownBlock] at e; omega)
  refine ⟨?_, ?_, hO3, ?_⟩
  ·
   refine BlockAt.keep ((m1.keep ((balloc (brefl _) _).block _ (by simp))).keep ((balloc (brefl _) (.cells #[] 3)).block _ (by simp; omega))) (k1 _ (by omega))
  ·
   refine BlockAt.keep (m2.keep ((balloc (brefl _) (.cells #[] 3)).block _ (by simp))) (k1 _ (by omega))
  ·
   exact (balloc (balloc (balloc (brefl _) _) _) _).trans (grown_below hgrow (by simp; omega) (fun q hq => by simp [Value.ownBlock] at hq; omega))
 rw [← hT]
 have HTT := hide hT
 have hTl : T + 1 < W3.heap.size := by omega
 clear hown hgrow hO3 HE hT hi hz0 hz1 hz2
 have HIN := hide (fun k => madeTo_in (gap := t.gap) hg.1 (fun x hx => (HC.out x hx).1) k : ∀ k, ColsIn n (madeTo t.gap need cells n k))
 go_wp2_with fail
 go_loopg [10] 4 (fun gg s10 wr => ∃ k : Nat, s10 = .int .i64 ((k + 1 : Nat) : Int) ∧ k ≤ 4 ∧ 4 - k ≤ gg ∧ Aside (W3.grownBy wr (some g9)) ∧ Aside (IOwn wr (T + 2) (.slice (some ⟨g9, 0, none⟩) n c9) (madeTo t.gap need cells n k)))
 case atStart => exact ⟨0, rfl, by omega, by omega, grow_refl _ _, FW.out.2.2.1⟩
 case round =>
  obtain ⟨k, rfl, hk, hgg, HGR, HO⟩ := hrel
  obtain ⟨sp, hsp⟩ : ∃ sp, sp = k + 1 := ⟨_, rfl⟩
  rw [← hsp]
  have HSP := hide hsp
  have KT := hide (fun (W : World) (hg : W3.grownBy W (some g9)) => FW.out.1.keep (grow_blk hg (by omega) (by omega)))
  have KG := hide (fun (W : World) (hg : W3.grownBy W (some g9)) => FW.out.2.1.keep (grow_blk hg (by omega) (by omega)))
  have KW := hide (fun (W : World) (hg : W3.grownBy W (some g9)) => FW.out.2.2.2.trans (grown_below hg (by have := FW.out.2.2.2.size; omega) (fun q hq => by injection hq with hq; have := HTT.out; omega)))
  by_cases hlt : k < 4
  ·
   have hltz : (sp : Int) ≤ 4 := by omega
   have hsp1 : 1 ≤ sp ∧ sp ≤ 4 := by omega
   clear hsp
   go_wp2_with fail
   go_loopg [11] cells.length (fun g2 s11 wr => ∃ i : Nat, s11 = .int .i64 i ∧ i ≤ cells.length ∧ cells.length - i ≤ g2 ∧ Aside (W3.grownBy wr (some g9)) ∧ Aside (IOwn wr (T + 2) (.slice (some ⟨g9, 0, none⟩) n c9) (madeS t.gap need sp (cells.take i) (madeTo t.gap need cells n k))))
   case atStart => exact ⟨0, rfl, Nat.zero_le _, by omega, HGR.out, (show Aside _ from by show IOwn _ _ _ _; rw [List.take_zero]; exact HO.out)⟩
   case round =>
    obtain ⟨i, rfl, hil, hg2, HGR2, HO2⟩ := hrel
    clear HGR HO
    have hg2' := (KG.out wr HGR2.out).1 2 _ rfl
    by_cases hlt2 : i < cells.length
    ·
     have hltz2 : (i : Int) < (cells.length : Int) := by omega
     obtain ⟨gb, go, x0, x1, x2, x3, x4, rfl, _, ⟨ex, hsm⟩, k0, k1, k2, k3, k4⟩ := HG.out.at5 rfl (KW.out wr HGR2.out) i hlt2
     obtain ⟨hci, hca, hnn⟩ := HC.out cells[i] (List.getElem_mem hlt2)
     have hst := madeS_take (gap := t.gap) (need := need) (span := sp) (cols := madeTo t.gap need cells n k) hlt2
     have hci2 := (madeS_spec (span := sp) hg.1 hsp1.1 (cells.take i) _ (HIN.out k) (fun x hx => (HC.out x (List.mem_of_mem_take hx)).1)).1
     generalize madeS t.gap need sp (cells.take i) (madeTo t.gap need cells n k) = X at HO2 hst hci2
     generalize cells[i] = cc at ex hci hca hnn hst
     have q : [x0, x1, x2, x3, x4] = [.int .i64 cc.row, .int .i64 cc.col, .int .i64 cc.rows, .int .i64 cc.cols, .int .i64 cc.inn] := ex
     simp only [List.cons.injEq, and_true] at q
     obtain ⟨rfl, rfl, rfl, rfl, rfl⟩ := q
     obtain ⟨a1, a2, a3, a4, a5⟩ := hci
     obtain ⟨ac, ha⟩ := Int.eq_ofNat_of_zero_le a1
     have HTEXT := hide (fun (W : World) (hb : Below w.heap.size w W) => spec_l5Text t A c A' c' cc W (HR.out.below hb) hca)
     have htz : (textOf t cc).size ≤ 1048576 := by
      obtain ⟨_, _, _, _, _, _, _, _, _, _, _, _, _, _, _, h⟩ := text_at (HR.out.below (KW.out wr HGR2.out)) hca
      exact h
     have hnd : need cc = (if lb then leastT else wishT) (textOf t cc) := by rw [HND.out]
     generalize textOf t cc = tx at HTEXT htz hnd
     have HNN := hide (And.intro hnn a5)
     have HST := hide hst
     have HX := hide hci2
     have HNDC := hide hnd
     clear hst hnn hci2 ex hsm hca a5 hnd
     by_cases heq : cc.cols = (sp : Int)
     ·
      have heq1 : ((sp : Int) != (sp : Int)) = false := by simp
      rw [heq] at k3 HTEXT
      rw [ha] at k1 HTEXT
      go_upto_region 10 with fail
      have hap : ac + sp ≤ n := by omega
      obtain ⟨ae, hae⟩ : ∃ ae, ae = ac + sp := ⟨_, rfl⟩
      have hsa : ae - ac = sp := by omega
      have t1 : IntKind.i64.wrap ((ac : Int) + (sp : Int)) = (ae : Int) := by rw [IntKind.wrap_i64]; omega
      obtain ⟨C, hC⟩ : ∃ C, C = wr.heap.size := ⟨_, rfl⟩
      rw [← hC]
      generalize hW4 : wr.alloc _ = W4
      have hb4 : Below wr.heap.size wr W4 := by rw [← hW4]; exact balloc (brefl _) _
      have fC : Hid (BlockAt W4 C [.int .i64 cc.row, .int .i64 ac, .int .i64 cc.rows, .int .i64 sp, .int .i64 cc.inn]) := by
       show BlockAt _ _ _; rw [← hW4, hC]; exact BlockAt.new wr _ _
      have hC4 : C < W4.heap.size := by rw [← hW4, hC]; simp
      have hTr : T < wr.heap.size := by have := HGR2.out.size; omega
      have hgr9 : g9 < wr.heap.size := by have := HGR2.out.size; omega
      have fT : Hid (BlockAt W4 T [.slice A t.cols.length c, .int .i64 t.head, .int .i64 t.foot, .slice A' t.rows.length c', .int .i64 t.gap]) := (KT.out wr HGR2.out).keep (hb4.block T hTr)
      have HO4 : Hid (IOwn W4 (T + 2) (.slice (some ⟨g9, 0, none⟩) n c9) X) := HO2.out.below hb4
      have HGR4 := hide (grow_trans HGR2.out (grow_below hb4))
      have KWB := hide (step (KW.out wr HGR2.out) hb4)
      have hT4 : T < W4.heap.size := by have := hb4.size; omega
      have hgC : g9 < C := by omega
      have hTC : T < C := by omega
      obtain ⟨N, hN⟩ : ∃ N, need cc = N := ⟨_, rfl⟩
      have HNE := hide (HNDC.out.symm.trans hN)
      have HNN2 : Hid (0 ≤ N ∧ N ≤ 30) := by rw [← hN]; exact ⟨by have := HNN.out.1; rw [HND.out]; exact this, HNN.out.2⟩
      have HN := hide hN
      have HCC := hide hC
      clear hC hW4 hb4 k0 k1 k2 k3 k4 hg2' hN hae
      have fT0 := fT.out.1 0 _ rfl
      have fT1 := fT.out.1 1 _ rfl
      have fT2 := fT.out.1 2 _ rfl
      have fT3 := fT.out.1 3 _ rfl
      have fT4 := fT.out.1 4 _ rfl
      have fC0 := fC.out.1 0 _ rfl
      have fC1 := fC.out.1 1 _ rfl
      have fC2 := fC.out.1 2 _ rfl
      have fC3 := fC.out.1 3 _ rfl
      have fC4 := fC.out.1 4 _ rfl
      go_wp2_with fail
      refine (HTEXT.out W4 KWB.out).mono ?_
      rintro _ W5 ⟨rfl, hb5⟩
      have hs5 := hb5.size
      have fC5 := hide (fC.out.keep (hb5.block C hC4))
      have fT5 := hide (fT.out.keep (hb5.block T hT4))
      have HO5 : Hid (IOwn W5 (T + 2) (.slice (some ⟨g9, 0, none⟩) n c9) X) := HO4.out.below hb5
      have HGR5 := hide (grow_trans HGR4.out (grow_below hb5))
      have KWB5 := hide (step KWB.out hb5)
      clear fT0 fT1 fT2 fT3 fT4 fC0 fC1 fC2 fC3 fC4 hb5 fC fT HO4 HGR4 KWB
      go_wp2_with fail
      refine (spec_TxtWish tx W5 htz).mono ?_
      rintro _ W6 ⟨rfl, hw6⟩
      obtain rfl := hw6.symm
      go_upto_if 44 with fail
      go_cut [13] from 44 to 48 (fun s13 wx => s13 = .int .i64 N ∧ Below W5.heap.size W5 wx)
      case first =>
       cases lb with
       | false =>
        go_wp2_with fail
        go_meet
        case rel => exact ⟨by rw [← HNE.out]; rfl, brefl _⟩
       | true =>
        have fT0 := fT5.out.1 0 _ rfl
        have fT1 := fT5.out.1 1 _ rfl
        have fT2 := fT5.out.1 2 _ rfl
        have fT3 := fT5.out.1 3 _ rfl
        have fT4 := fT5.out.1 4 _ rfl
        have fC0 := fC5.out.1 0 _ rfl
        have fC1 := fC5.out.1 1 _ rfl
        have fC2 := fC5.out.1 2 _ rfl
        have fC3 := fC5.out.1 3 _ rfl
        have fC4 := fC5.out.1 4 _ rfl
        go_wp2_with fail
        refine (HTEXT.out W5 KWB5.out).mono ?_
        rintro _ W7 ⟨rfl, hb7⟩
        clear fT0 fT1 fT2 fT3 fT4 fC0 fC1 fC2 fC3 fC4
        go_wp2_with fail
        refine (spec_TxtLeast tx W7 htz).mono ?_
        rintro _ W8 ⟨rfl, hb8⟩
        go_wp2_with fail
        go_meet
        case rel => exact ⟨by rw [← HNE.out]; rfl, step hb7 hb8⟩
      case rest =>
      obtain ⟨rfl, hbc⟩ := hcut
      have hsc := hbc.size
      have hCc : C < wc.heap.size := by omega
      have fC := fC5.out.keep (hbc.block C (by omega))
      have fT := fT5.out.keep (hbc.block T (by omega))
      have HO6 : Hid (IOwn wc (T + 2) (.slice (some ⟨g9, 0, none⟩) n c9) X) := HO5.out.below hbc
      have HGR6 := hide (grow_trans HGR5.out (grow_below hbc))
      have FC := hide fC
      have FT := hide fT
      have fT4 := fT.1 4 _ rfl
      have fC1 := fC.1 1 _ rfl
      have fC3 := fC.1 3 _ rfl
      have hcc : n ≤ c9 := by
       obtain ⟨A9, k9, e9, h9, _⟩ := (HO6.out).rd
       rw [HX.out.1] at e9 h9
       injection e9 with _ _ e9
       omega
      have hwn := winS_nonneg HX.out ac sp
      have hwl : ((X.drop ac).take sp).length = sp := win_length HX.out.1 (by omega)
      have hwb : ∀ x ∈ (X.drop ac).take sp, 0 ≤ x ∧ x ≤ 30 := fun x hx => HX.out.2 x (List.mem_of_mem_drop (List.mem_of_mem_take hx))
      have hws : winS X ac sp ≤ 30 * (sp : Int) := by
       have := sumI_le (l := (X.drop ac).take sp) (m := 30) (fun x hx => (hwb x hx).2)
       rw [hwl] at this
       exact this
      have hrd := rd_sub (HO6.out.at_rd) rfl ac sp
      rw [Nat.zero_add] at hrd
      have hsum : ∀ q, Calls Tryz.prog 90 #[.slice (some ⟨g9, ac, none⟩) sp (c9 - ac)] (wc.drewN q) fun e w' => e = .returned (.int .i64 (winS X ac sp)) ∧ w' = wc.drewN q := fun q => by
       have h2 := spec_l1Sum (some ⟨g9, ac, none⟩) (c9 - ac) ((X.drop ac).take sp) (wc.drewN q) (hrd.below (bdrewN (brefl _) q)) (fun x hx => by have := hwb x hx; omega) (by rw [hwl]; omega)
       rw [hwl] at h2
       exact h2
      have hst := HST.out
      unfold stepCol at hst
      rw [if_pos heq, ha, Int.toNat_natCast, HN.out] at hst
      have hnz := HNN2.out
      have HRD := hide hrd
      obtain ⟨Wn, hWn⟩ : ∃ Wn, winS X ac sp = Wn := ⟨_, rfl⟩
      rw [hWn] at hst hwn hws hsum
      obtain ⟨gs, hgs⟩ : ∃ gs, t.gap * ((sp : Int) - 1) = gs := ⟨_, rfl⟩
      have hgs0 : 0 ≤ gs ∧ gs ≤ 9 := by
       rw [← hgs]
       refine ⟨Int.mul_nonneg hg.1 (by omega), ?_⟩
       have h1 : t.gap * ((sp : Int) - 1) ≤ 3 * ((sp : Int) - 1) := Int.mul_le_mul_of_nonneg_right hg.2 (by omega)
       omega
      rw [hgs] at hst
      have tw2 : IntKind.i64.wrap ((sp : Int) - 1) = (sp : Int) - 1 := by rw [IntKind.wrap_i64]; omega
      have tw3 : IntKind.i64.wrap (t.gap * ((sp : Int) - 1)) = gs := by rw [hgs, IntKind.wrap_i64]; omega
      have tw4 : IntKind.i64.wrap (Wn + gs) = Wn + gs := by rw [IntKind.wrap_i64]; omega
      have tw5 : IntKind.i64.wrap (N - (Wn + gs)) = N - (Wn + gs) := by rw [IntKind.wrap_i64]; omega
      have HWL := hide hwl
      have HWB := hide hwb
      have HST2 := hide hst
      have HSA := hide hsa
      have hae1 : ae ≤ c9 := by omega
      have hae2 : ac ≤ ae := by omega
      have hae3 : (ac : Int) ≤ (ae : Int) := by omega
      have hae4 : (ae : Int) ≤ (c9 : Int) := by omega
      have hna : ¬ c9 = ac := by omega
      rw [← hsa] at hsum
      have hsum : ∀ q, Calls Tryz.prog 90 #[.slice (some ⟨g9, ac, none⟩) (ae - ac) (c9 - ac)] (wc.drewN q) fun e w' => e = .returned (.int .i64 Wn) ∧ w' = wc.drewN q := hsum
      clear hst HST hWn hgs hwl hwb hrd fC fT hbc hsc HO5 HGR5 hsa
      go_wp2_with fail
      go_quiet (first | (go_at_call 90; refine Calls.quiet_of_same (hsum _)))
      have HO7 : Hid (IOwn (wc.drewN nq) (T + 2) (.slice (some ⟨g9, 0, none⟩) n c9) X) := HO6.out.drewN nq
      have HGR7 : Hid (W3.grownBy (wc.drewN nq) (some g9)) := grow_drewN HGR6.out nq
      have FC7 : Hid (BlockAt (wc.drewN nq) C [.int .i64 cc.row, .int .i64 ac, .int .i64 cc.rows, .int .i64 sp, .int .i64 cc.inn]) := FC.out.keep ((bdrewN (brefl wc) nq).block C hCc)
      have HRD7 := hide (HRD.out.below (bdrewN (brefl wc) nq))
      have hC7 : C < (wc.drewN nq).heap.size := by have := (bdrewN (brefl wc) nq).size; omega
      clear HO6 HGR6 FC HRD fT4 fC1 fC3 hsum tw2 tw3 tw4
      generalize wc.drewN nq = W7 at HO7 HGR7 FC7 HRD7 hC7 ⊢
      by_cases hpos : Wn + gs < N
      ·
       have hst := HST2.out
       rw [if_pos (by omega)] at hst
       have hsh := spec_l4Share (N - (Wn + gs)) (some ⟨g9, ac, none⟩) (c9 - ac) ((X.drop ac).take sp) W7 HRD7.out ⟨by omega, fun x hx => by have := HWB.out x hx; omega, by rw [HWL.out]; omega⟩ (by rw [HWL.out]; omega)
       obtain ⟨s1, s2, s3⟩ := share_spec (total := N - (Wn + gs)) (ws := (X.drop ac).take sp) (by omega) (fun x hx => (HWB.out x hx).1) (by intro e; have := HWL.out; rw [e] at this; simp at this; omega)
       rw [show N - Wn - gs = N - (Wn + gs) by omega] at hst
       rw [HWL.out] at hsh s1
       generalize share (N - (Wn + gs)) ((X.drop ac).take sp) = sh at hst hsh s1 s2 s3
       have hsb : ∀ x ∈ sh, 0 ≤ x ∧ x ≤ 30 := fun x hx => ⟨s3 x hx, by have := sumI_ge s3 x hx; omega⟩
       have HST3 := hide hst
       have HSB := hide hsb
       have HSL := hide s1
       rw [← HSA.out] at hsh
       have fC1 := FC7.out.1 1 _ rfl
       have fC3 := FC7.out.1 3 _ rfl
       clear hst HST2 s1 s2 s3 hsb
       go_wp2_with fail
       refine hsh.mono ?_
       rintro _ W11 ⟨v, rfl, hOs, hb11⟩
       obtain ⟨gq, cq, rfl, hq1, hq2, _, _⟩ := hOs.at (by rw [HSL.out]; omega)
       rw [HSL.out]
       rw [HSL.out] at hOs
       have HOS := hide hOs
       have HGR8 := hide (grow_trans HGR7.out (grow_below hb11))
       have HO8 : Hid (IOwn W11 (T + 2) (.slice (some ⟨g9, 0, none⟩) n c9) X) := HO7.out.below hb11
       have FC8 : Hid (BlockAt W11 C [.int .i64 cc.row, .int .i64 ac, .int .i64 cc.rows, .int .i64 sp, .int .i64 cc.inn]) := FC7.out.keep (hb11.block C hC7)
       have hgq : C < gq := by omega
       have hC8 : C < W11.heap.size := by have := hb11.size; omega
       clear hOs hb11 hsh HO7 HGR7 FC7 fC1 fC3
       go_wp2_with fail
       go_loopg [16] sp (fun g3 s16 wr => ∃ j : Nat, s16 = .int .i64 j ∧ j ≤ sp ∧ sp - j ≤ g3 ∧ Aside (W11.grownBy wr (some g9)) ∧ Aside (IOwn wr (T + 2) (.slice (some ⟨g9, 0, none⟩) n c9) (addAt X ac (sh.take j))))
       case atStart => exact ⟨0, rfl, Nat.zero_le _, by omega, grow_refl _ _, (show Aside _ from by show IOwn _ _ _ _; rw [List.take_zero]; exact HO8.out)⟩
       case round =>
        obtain ⟨j, rfl, hjs, hgj, HG7, HO7⟩ := hrel
        clear HO8
        by_cases hlt3 : j < sp
        ·
         have hltz3 : (j : Int) < (sp : Int) := by omega
         have c0 := HOS.out.cell (j := j) (by rw [HSL.out]; exact hlt3)
         have c1 : wr.cell? ⟨gq, j, none⟩ = some (.int .i64 (sh.getD j 0)) := by
          rw [World.cell?_of_block (HG7.out.block gq hq2 (fun e => by injection e with e; omega))]
          exact c0
         have fC9 := (FC8.out.keep (HG7.out.block C hC8 (fun e => by injection e with e; omega))).1 1 _ rfl
         obtain ⟨p, hp⟩ : ∃ p, p = ac + j := ⟨_, rfl⟩
         have hxl : (addAt X ac (sh.take j)).length = n := by rw [addAt_length]; exact HX.out.1
         have c2 := HO7.out.cell (j := p) (by rw [hxl]; omega)
         have f2 := HO7.out.frozen p
         have hget := addAt_get (sh.take j) X ac p (by rw [HX.out.1]; simp; omega)
         rw [if_neg (by simp; omega), Int.add_zero] at hget
         have hxb := getD_in HX.out p
         have hyb := int_at HSB.out j (by rw [HSL.out]; exact hlt3)
         have hsn := addAt_snoc (sh.take j) (sh.getD j 0) X ac
         rw [take_snoc (by rw [HSL.out]; exact hlt3), List.length_take, HSL.out, Nat.min_eq_left (by omega), ← hp] at hsn
         rw [← hget] at hxb
         have hstore := fun y => HO7.out.store p y
         generalize sh.getD j 0 = y at c1 hyb hsn
         generalize (addAt X ac (sh.take j)).getD p 0 = x at c2 hxb hsn
         have t5 : IntKind.i64.wrap (x + y) = x + y := by rw [IntKind.wrap_i64]; omega
         have t6 : IntKind.i64.wrap ((ac : Int) + (j : Int)) = (p : Int) := by rw [IntKind.wrap_i64]; omega
         have hpz : (p : Int) < (n : Int) := by omega
         have HSN := hide hsn
         have HSTO := hide hstore
         clear c0 hxl hget hxb hyb hsn hp hstore
         go_wp2_with fail
         go_big_region
         go_wp2_with fail
         go_roundg (sp - (j + 1))
         case measure => omega
         case rel => exact ⟨j + 1, by go_num, by omega, by omega, grow_drew (grow_trans HG7.out (grow_set _ rfl _)), (show Aside _ from by rw [HSN.out]; exact own_below (HSTO.out (x + y)) (bdrew (brefl _)))⟩
        ·
         have hltz3 : ¬ (j : Int) < (sp : Int) := by omega
         have hO := HO7.out
         rw [List.take_of_length_le (by rw [HSL.out]; omega), ← HST3.out] at hO
         have HO8 := hide hO
         clear hO HO7
         go_wp2_with fail
         go_roundg (cells.length - (i + 1))
         case measure => omega
         case rel => exact ⟨i + 1, by go_num, by omega, by omega, grow_trans HGR8.out HG7.out, HO8.out⟩
      ·
       have hst := HST2.out
       rw [if_neg (by omega)] at hst
       have HST3 := hide hst
       clear hst HST2
       go_wp2_with fail
       go_roundg (cells.length - (i + 1))
       case measure => omega
       case rel => exact ⟨i + 1, by go_num, by omega, by omega, HGR7.out, (show Aside _ from by rw [HST3.out]; exact HO7.out)⟩
     ·
      have heq1 : (cc.cols != (sp : Int)) = true := by simpa using heq
      have hst := HST.out
      unfold stepCol at hst
      rw [if_neg heq] at hst
      have HST2 := hide hst
      have HGR4 := hide (fun (o : Obj) => grow_trans HGR2.out (grow_below (balloc (brefl wr) o)))
      have HO4 : Hid (∀ o : Obj, IOwn (wr.alloc o) (T + 2) (.slice (some ⟨g9, 0, none⟩) n c9) X) := fun o => HO2.out.below (balloc (brefl _) _)
      clear hst HST
      go_wp2_with fail
      go_roundg (cells.length - (i + 1))
      case measure => omega
      case rel => exact ⟨i + 1, by go_num, by omega, by omega, HGR4.out _, (show Aside _ from by rw [HST2.out]; exact HO4.out _)⟩
    ·
     have hltz2 : ¬ (i : Int) < (cells.length : Int) := by omega
     have hO := HO2.out
     rw [List.take_of_length_le (by omega), HSP.out] at hO
     have HO3 : Hid (IOwn wr (T + 2) (.slice (some ⟨g9, 0, none⟩) n c9) (madeTo t.gap need cells n (k + 1))) := hO
     have t1 : IntKind.i64.wrap ((sp : Int) + 1) = ((k + 1 + 1 : Nat) : Int) := by rw [IntKind.wrap_i64]; have := HSP.out; omega
     clear hO HO2
     go_wp2_with fail
     go_roundg (4 - (k + 1))
     case measure => omega
     case rel => exact ⟨k + 1, by have := HSP.out; subst this; first | rfl | go_num, by omega, by omega, HGR2.out, HO3.out⟩
  ·
   have hltz : ¬ (sp : Int) ≤ 4 := by omega
   have hk4 : k = 4 := by omega
   subst hk4
   go_wp2_with fail
   go_ret
   refine ⟨_, rfl, ?_, KW.out wr HGR.out⟩
   rw [← madeTo_four]
   exact HO.out.base (by have := HTT.out; omega)
end Go.Proofs.YtpfagdmmhgcmnaaGreatDoor

namespace Go.Proofs.YtpfagdmmhgcmnaaGreatDoor
theorem countP_or {α : Type} (p q : α → Bool) : ∀ (l : List α), l.countP (fun x => p x || q x) ≤ l.countP p + l.countP q
 | [] => Nat.le_refl _
 | x :: l => by
  have ih := countP_or p q l
  simp only [List.countP_cons]
  cases p x <;> cases q x <;> simp <;> omega
theorem countP_imp {α : Type} (p q : α → Bool) : ∀ (l : List α), (∀ x ∈ l, p x = true → q x = true) → l.countP p ≤ l.countP q
 | [], _ => Nat.le_refl _
 | x :: l, h => by
  have ih := countP_imp p q l (fun y hy => h y (List.mem_cons_of_mem _ hy))
  have hx := h x (List.mem_cons_self ..)
  simp only [List.countP_cons]
  cases hp : p x <;> cases hq : q x <;> simp [hp, hq] at hx ⊢ <;> omega
theorem count_window (lo hi : Int) : ∀ (n : Nat), ((List.range n).countP (fun k : Nat => decide (lo < (k : Int)) && decide ((k : Int) < hi)) : Int) ≤ max 0 (min (n : Int) hi - lo - 1)
 | 0 => by simp; omega
 | n + 1 => by
  have ih := count_window lo hi n
  rw [List.range_succ, List.countP_append, List.countP_singleton]
  by_cases h1 : lo < (n : Int) <;> by_cases h2 : (n : Int) < hi <;> simp [h1, h2] <;> omega
def nearB (r : Int) (b : GCell) : Bool := decide (r < b.row + b.rows)
theorem count_blocked (c : GCell) (hc : c.cols ≤ 4) (n : Nat) : ∀ (L : List GCell), (∀ b ∈ L, b.cols ≤ 4) →
  (List.range n).countP (fun k : Nat => L.any (meets (atCol c k))) ≤ 7 * L.countP (nearB c.row)
 | [], _ => by simp
 | b :: L, h => by
  have ih := count_blocked c hc n L (fun y hy => h y (List.mem_cons_of_mem _ hy))
  have hb := h b (List.mem_cons_self ..)
  have h1 := countP_or (fun k : Nat => meets (atCol c k) b) (fun k : Nat => L.any (meets (atCol c k))) (List.range n)
  simp only [List.any_cons, List.countP_cons]
  have h2 : (List.range n).countP (fun k : Nat => meets (atCol c k) b) ≤ 7 * (if nearB c.row b = true then 1 else 0) := by
   by_cases hn : nearB c.row b = true
   ·
    rw [if_pos hn]
    have h3 := count_window (b.col - c.cols) (b.col + b.cols) n
    have h4 := countP_imp (fun k : Nat => meets (atCol c k) b) (fun k : Nat => decide (b.col - c.cols < (k : Int)) && decide ((k : Int) < b.col + b.cols)) (List.range n) (fun k _ hk => by
     dsimp only [meets, atCol] at hk
     simp only [Bool.and_eq_true, decide_eq_true_eq] at hk ⊢
     obtain ⟨⟨⟨_, _⟩, h5⟩, h6⟩ := hk
     constructor <;> omega)
    have h5 : max 0 (min (n : Int) (b.col + b.cols) - (b.col - c.cols) - 1) ≤ 7 := Int.max_le.2 ⟨by decide, by omega⟩
    omega
   ·
    rw [if_neg hn]
    have h4 := countP_imp (fun k : Nat => meets (atCol c k) b) (fun _ => false) (List.range n) (fun k _ hk => by
     dsimp only [meets, atCol] at hk
     simp only [Bool.and_eq_true, decide_eq_true_eq] at hk
     simp only [nearB, decide_eq_true_eq] at hn
     exact absurd hk.1.1.1 hn)
    simpa using h4
  omega
theorem free_spec (L : List GCell) (c : GCell) : ∀ (m k : Nat), k ≤ freeFrom L c m k ∧ ∀ j, k ≤ j → j < freeFrom L c m k → L.any (meets (atCol c (j : Nat))) = true
 | 0, k => ⟨Nat.le_refl k, fun j h1 h2 => by simp only [freeFrom] at h2; omega⟩
 | m + 1, k => by
  unfold freeFrom
  split
  ·
   rename_i hb
   obtain ⟨h1, h2⟩ := free_spec L c m (k + 1)
   refine ⟨by omega, fun j h3 h4 => ?_⟩
   by_cases e : j = k
   ·
    subst e; exact hb
   ·
    exact h2 j (by omega) h4
  ·
   exact ⟨Nat.le_refl k, fun j h1 h2 => by omega⟩
theorem free_near (L : List GCell) (c : GCell) (hc : c.cols ≤ 4) (hL : ∀ b ∈ L, b.cols ≤ 4) (m : Nat) : freeFrom L c m 0 ≤ 7 * L.countP (nearB c.row) := by
 have h := (free_spec L c m 0).2
 have h1 := count_blocked c hc (freeFrom L c m 0) L hL
 have h2 : (List.range (freeFrom L c m 0)).countP (fun k : Nat => L.any (meets (atCol c k))) = freeFrom L c m 0 := by
  have : (List.range (freeFrom L c m 0)).countP (fun k : Nat => L.any (meets (atCol c k))) = (List.range (freeFrom L c m 0)).length :=
   List.countP_eq_length.2 fun j hj => h j (Nat.zero_le j) (List.mem_range.1 hj)
  rw [this, List.length_range]
 omega
def roomOf (k r : Int) : Nat := if r = k then 5 else 4
structure GInv (k : Int) (r i : Nat) (S : List GCell × Int) : Prop where
 few : ∀ j : Int, S.1.countP (fun b => decide (b.row = j)) ≤ roomOf k j
 here : S.1.countP (fun b => decide (b.row = (r : Int))) ≤ i
 each : ∀ b ∈ S.1, b.row ≤ r ∧ b.rows ≤ 3 ∧ b.cols ≤ 4
 wide : S.2 < 90
theorem GInv.near {k : Int} {r i : Nat} {S : List GCell × Int} (h : GInv k r i S) (hi : i < roomOf k r) : S.1.countP (nearB r) ≤ 12 := by
 have h1 := countP_imp (nearB r) (fun b => decide (b.row = (r : Int)) || (decide (b.row = (r : Int) - 1) || decide (b.row = (r : Int) - 2))) S.1 (fun b hb hn => by
  have := h.each b hb
  simp only [nearB, decide_eq_true_eq] at hn
  simp only [Bool.or_eq_true, decide_eq_true_eq]
  omega)
 have h2 := countP_or (fun b : GCell => decide (b.row = (r : Int))) (fun b => decide (b.row = (r : Int) - 1) || decide (b.row = (r : Int) - 2)) S.1
 have h3 := countP_or (fun b : GCell => decide (b.row = (r : Int) - 1)) (fun b => decide (b.row = (r : Int) - 2)) S.1
 have h4 := h.few ((r : Int) - 1)
 have h5 := h.few ((r : Int) - 2)
 have h6 := h.here
 unfold roomOf at hi h4 h5
 split at hi <;> split at h4 <;> split at h5 <;> omega
theorem GInv.step {k : Int} {r i : Nat} {S : List GCell × Int} (h : GInv k r i S) (hi : i < roomOf k r) (m : Nat) (t : Tbl) (n : Nat) (x : TCell) (hx : x.c ≤ 4) (hr : x.r ≤ 3) : GInv k r (i + 1) (step1 m t r n x S) := by
 have hn := h.near hi
 have hf := free_near S.1 (cell0 t r n x) hx (fun b hb => (h.each b hb).2.2) m
 have hrow : (cell0 t r n x).row = (r : Int) := rfl
 rw [hrow] at hf
 unfold step1
 refine ⟨fun j => ?_, ?_, fun b hb => ?_, ?_⟩
 ·
  simp only [List.countP_append, List.countP_singleton]
  have h1 := h.few j
  by_cases e : j = (r : Int)
  ·
   subst e
   have h2 := h.here
   have : (if (decide ((atCol (cell0 t r n x) (freeFrom S.1 (cell0 t r n x) m 0 : Nat)).row = (r : Int))) = true then 1 else 0) ≤ 1 := by split <;> omega
   omega
  ·
   rw [if_neg (fun e' => e (of_decide_eq_true e').symm)]
   omega
 ·
  simp only [List.countP_append, List.countP_singleton]
  have h2 := h.here
  have : (if (decide ((atCol (cell0 t r n x) (freeFrom S.1 (cell0 t r n x) m 0 : Nat)).row = (r : Int))) = true then 1 else 0) ≤ 1 := by split <;> omega
  omega
 ·
  rcases List.mem_append.1 hb with hb | hb
  ·
   exact h.each b hb
  ·
   rw [List.mem_singleton.1 hb]
   refine ⟨Int.le_refl _, ?_, hx⟩
   have : (cell0 t r n x).rows = min x.r (endOf t r - r) := rfl
   show (cell0 t r n x).rows ≤ 3
   rw [this]; omega
 ·
  have := h.wide
  show max S.2 _ < 90
  exact Int.max_lt.2 ⟨this, by omega⟩
theorem GInv.cells {k : Int} (m : Nat) (t : Tbl) (r : Nat) : ∀ (xs : List TCell) (n i : Nat) {S : List GCell × Int}, GInv k r i S → i + xs.length ≤ roomOf k r → (∀ x ∈ xs, x.c ≤ 4 ∧ x.r ≤ 3) → GInv k r (i + xs.length) (cellsSt m t r xs n S)
 | [], _, _, _, h, _, _ => h
 | x :: xs, n, i, S, h, hl, hx => by
  have hl' : i + (xs.length + 1) ≤ roomOf k r := hl
  have h1 := h.step (by omega) m t n x (hx x (List.mem_cons_self ..)).1 (hx x (List.mem_cons_self ..)).2
  have h2 := GInv.cells m t r xs (n + 1) (i + 1) h1 (by omega) (fun y hy => hx y (List.mem_cons_of_mem _ hy))
  rw [show i + (x :: xs).length = i + 1 + xs.length by simp only [List.length_cons]; omega]
  exact h2
theorem GInv.next {k : Int} {r i : Nat} {S : List GCell × Int} (h : GInv k r i S) : GInv k (r + 1) 0 S :=
 ⟨h.few, by
  refine Nat.le_of_eq (List.countP_eq_zero.2 fun b hb e => ?_)
  have := (h.each b hb).1
  simp only [decide_eq_true_eq] at e
  omega, fun b hb => by have := h.each b hb; exact ⟨by omega, this.2⟩, h.wide⟩
theorem GInv.rows {k : Int} (m : Nat) (t : Tbl) : ∀ (ys : List TRow) (r : Nat) {S : List GCell × Int}, GInv k r 0 S → (∀ (j : Nat) (hj : j < ys.length), ys[j].cs.length ≤ roomOf k ((r + j : Nat) : Int) ∧ ∀ x ∈ ys[j].cs, x.c ≤ 4 ∧ x.r ≤ 3) → (rowsSt m t ys r S).2 < 90
 | [], _, _, h, _ => h.wide
 | y :: ys, r, S, h, hy => by
  have h0 := hy 0 (by simp)
  have h1 := GInv.cells m t r y.cs 0 0 h (by simpa using h0.1) h0.2
  exact GInv.rows m t ys (r + 1) h1.next (fun j hj => by
   have := hy (j + 1) (by simpa using hj)
   rw [show r + 1 + j = r + (j + 1) by omega]
   simpa using this)
theorem grid_one {t : Tbl} (h : tblOk t = true) {k : Nat} (hy : ∀ (j : Nat) (hj : j < t.rows.length), t.rows[j].cs.length ≤ (if j = k then 5 else 4) ∧ ∀ x ∈ t.rows[j].cs, x.r ≠ 4) : gridL 400 t = gridL 90 t := by
 have h0 : GInv (k : Int) 0 0 (grid0 t) := ⟨fun j => by simp [grid0], by simp [grid0], fun b hb => by simp [grid0] at hb, by
  have := (tblOk_parts h).2.1
  show max (t.cols.length : Int) 1 < 90
  exact Int.max_lt.2 ⟨by omega, by decide⟩⟩
 have hlow : (gridL 90 t).2 < 90 := GInv.rows 90 t t.rows 0 h0 (fun j hj => by
  refine ⟨?_, fun x hx => ?_⟩
  ·
   have := (hy j hj).1
   unfold roomOf
   rw [Nat.zero_add]
   by_cases e : j = k
   ·
    rw [if_pos e] at this; rw [if_pos (by omega)]; exact this
   ·
    rw [if_neg e] at this; rw [if_neg (by omega)]; exact this
  ·
   have h1 := (cellOk_parts (((tblOk_parts h).2.2.2.2.2.2 _ (List.getElem_mem hj)).2 x hx))
   have h2 := (hy j hj).2 x hx
   have h3 := h1.1
   have h4 := h1.2.1
   exact ⟨by omega, by omega⟩)
 rcases grid_alike h with e | ⟨_, h2⟩
 ·
  exact e
 ·
  omega
end Go.Proofs.YtpfagdmmhgcmnaaGreatDoor

namespace Go.Proofs.YtpfagdmmhgcmnaaGreatDoor
def ApartL (L : List GCell) : Prop := L.Pairwise fun a b => meets a b = false
theorem free_free (L : List GCell) (c : GCell) : ∀ (m k : Nat), freeFrom L c m k < k + m → L.any (meets (atCol c (freeFrom L c m k : Nat))) = false
 | 0, k, h => by simp only [freeFrom] at h; omega
 | m + 1, k, h => by
  unfold freeFrom at h ⊢
  split
  ·
   rename_i hb
   rw [if_pos hb] at h
   exact free_free L c m (k + 1) (by omega)
  ·
   rename_i hb
   exact Bool.eq_false_iff.2 hb
theorem ApartL.step {k : Int} {r i : Nat} {S : List GCell × Int} (ha : ApartL S.1) (h : GInv k r i S) (hi : i < roomOf k r) {m : Nat} (hm : 84 < m) (t : Tbl) (n : Nat) (x : TCell) (hx : x.c ≤ 4) : ApartL (step1 m t r n x S).1 := by
 have hn := h.near hi
 have hf := free_near S.1 (cell0 t r n x) hx (fun b hb => (h.each b hb).2.2) m
 have hrow : (cell0 t r n x).row = (r : Int) := rfl
 rw [hrow] at hf
 have hfree := free_free S.1 (cell0 t r n x) m 0 (by omega)
 unfold step1
 refine List.pairwise_append.2 ⟨ha, List.pairwise_singleton .., fun a hl b hb => ?_⟩
 rw [List.mem_singleton.1 hb, meets_comm]
 exact Bool.eq_false_iff.2 fun e => absurd (List.any_eq_true.2 ⟨a, hl, e⟩) (by rw [hfree]; decide)
theorem ApartL.cells {k : Int} {m : Nat} (hm : 84 < m) (t : Tbl) (r : Nat) : ∀ (xs : List TCell) (n i : Nat) {S : List GCell × Int}, ApartL S.1 → GInv k r i S → i + xs.length ≤ roomOf k r → (∀ x ∈ xs, x.c ≤ 4 ∧ x.r ≤ 3) → ApartL (cellsSt m t r xs n S).1
 | [], _, _, _, ha, _, _, _ => ha
 | x :: xs, n, i, S, ha, h, hl, hx => by
  have hl' : i + (xs.length + 1) ≤ roomOf k r := hl
  have h0 := hx x (List.mem_cons_self ..)
  exact ApartL.cells hm t r xs (n + 1) (i + 1) (ha.step h (by omega) hm t n x h0.1) (h.step (by omega) m t n x h0.1 h0.2) (by omega) (fun y hy => hx y (List.mem_cons_of_mem _ hy))
theorem ApartL.rows {k : Int} {m : Nat} (hm : 84 < m) (t : Tbl) : ∀ (ys : List TRow) (r : Nat) {S : List GCell × Int}, ApartL S.1 → GInv k r 0 S → (∀ (j : Nat) (hj : j < ys.length), ys[j].cs.length ≤ roomOf k ((r + j : Nat) : Int) ∧ ∀ x ∈ ys[j].cs, x.c ≤ 4 ∧ x.r ≤ 3) → ApartL (rowsSt m t ys r S).1
 | [], _, _, ha, _, _ => ha
 | y :: ys, r, S, ha, h, hy => by
  have h0 := hy 0 (by simp)
  have h1 := GInv.cells m t r y.cs 0 0 h (by simpa using h0.1) h0.2
  have h2 := ApartL.cells hm t r y.cs 0 0 ha h (by simpa using h0.1) h0.2
  exact ApartL.rows hm t ys (r + 1) h2 h1.next (fun j hj => by
   have := hy (j + 1) (by simpa using hj)
   rw [show r + 1 + j = r + (j + 1) by omega]
   simpa using this)
theorem room_rows {t : Tbl} (h : tblOk t = true) {k : Nat} (hy : ∀ (j : Nat) (hj : j < t.rows.length), t.rows[j].cs.length ≤ (if j = k then 5 else 4) ∧ ∀ x ∈ t.rows[j].cs, x.r ≠ 4) :
  GInv (k : Int) 0 0 (grid0 t) ∧ ∀ (j : Nat) (hj : j < t.rows.length), t.rows[j].cs.length ≤ roomOf k ((0 + j : Nat) : Int) ∧ ∀ x ∈ t.rows[j].cs, x.c ≤ 4 ∧ x.r ≤ 3 := by
 refine ⟨⟨fun j => by simp [grid0], by simp [grid0], fun b hb => by simp [grid0] at hb, by
  have := (tblOk_parts h).2.1
  show max (t.cols.length : Int) 1 < 90
  exact Int.max_lt.2 ⟨by omega, by decide⟩⟩, fun j hj => ⟨?_, fun x hx => ?_⟩⟩
 ·
  have := (hy j hj).1
  unfold roomOf
  rw [Nat.zero_add]
  by_cases e : j = k
  ·
   rw [if_pos e] at this; rw [if_pos (by omega)]; exact this
  ·
   rw [if_neg e] at this; rw [if_neg (by omega)]; exact this
 ·
  have h1 := (cellOk_parts (((tblOk_parts h).2.2.2.2.2.2 _ (List.getElem_mem hj)).2 x hx))
  have h2 := (hy j hj).2 x hx
  have h3 := h1.1
  have h4 := h1.2.1
  exact ⟨by omega, by omega⟩
theorem grid_apart {t : Tbl} (h : tblOk t = true) {k : Nat} (hy : ∀ (j : Nat) (hj : j < t.rows.length), t.rows[j].cs.length ≤ (if j = k then 5 else 4) ∧ ∀ x ∈ t.rows[j].cs, x.r ≠ 4) {m : Nat} (hm : 84 < m) : ApartL (gridL m t).1 :=
 ApartL.rows hm t t.rows 0 List.Pairwise.nil (room_rows h hy).1 (room_rows h hy).2
end Go.Proofs.YtpfagdmmhgcmnaaGreatDoor

namespace Go.Proofs.YtpfagdmmhgcmnaaGreatDoor
structure PRect where
 x : Int
 y : Int
 w : Int
 h : Int
def PRect.has (r : PRect) (x y : Nat) : Bool := (decide (r.x ≤ x) && decide ((x : Int) < r.x + r.w)) && (decide (r.y ≤ y) && decide ((y : Int) < r.y + r.h))
def PRect.over (a b : PRect) : Prop := a.x < b.x + b.w ∧ b.x < a.x + a.w ∧ a.y < b.y + b.h ∧ b.y < a.y + a.h
end Go.Proofs.YtpfagdmmhgcmnaaGreatDoor

namespace Go.Proofs.YtpfagdmmhgcmnaaGreatDoor
structure CellG (nr nc : Int) (c : GCell) : Prop where
 row : 0 ≤ c.row
 rows : 1 ≤ c.rows
 down : c.row + c.rows ≤ nr
 col : 0 ≤ c.col
 cols : 1 ≤ c.cols
 right : c.col + c.cols ≤ nc
theorem CellG.wider {nr nc nc' : Int} {c : GCell} (h : CellG nr nc c) (hn : nc ≤ nc') : CellG nr nc' c := ⟨h.row, h.rows, h.down, h.col, h.cols, Int.le_trans h.right hn⟩
def AllIn (nr : Int) (S : List GCell × Int) : Prop := ∀ c ∈ S.1, CellG nr S.2 c
theorem AllIn.step {nr : Int} {S : List GCell × Int} (h : AllIn nr S) (m : Nat) (t : Tbl) (r n : Nat) (x : TCell) (hc : 1 ≤ x.c) (hr : 1 ≤ x.r) (he : (r : Int) < endOf t r ∧ endOf t r ≤ nr) : AllIn nr (step1 m t r n x S) := by
 unfold step1
 intro c hc'
 rcases List.mem_append.1 hc' with hc' | hc'
 ·
  exact (h c hc').wider (Int.le_max_left ..)
 ·
  rw [List.mem_singleton.1 hc']
  have e : (atCol (cell0 t r n x) (freeFrom S.1 (cell0 t r n x) m 0 : Nat)).rows = min x.r (endOf t r - r) := rfl
  have e2 : (atCol (cell0 t r n x) (freeFrom S.1 (cell0 t r n x) m 0 : Nat)).row = (r : Int) := rfl
  refine ⟨by rw [e2]; omega, by rw [e]; omega, by rw [e, e2]; omega, ?_, hc, Int.le_max_right ..⟩
  exact Int.natCast_nonneg _
theorem AllIn.cells {nr : Int} (m : Nat) (t : Tbl) (r : Nat) (he : (r : Int) < endOf t r ∧ endOf t r ≤ nr) : ∀ (xs : List TCell) (n : Nat) {S : List GCell × Int}, AllIn nr S → (∀ x ∈ xs, 1 ≤ x.c ∧ 1 ≤ x.r) → AllIn nr (cellsSt m t r xs n S)
 | [], _, _, h, _ => h
 | x :: xs, n, _, h, hx => AllIn.cells m t r he xs (n + 1) (h.step m t r n x (hx x (List.mem_cons_self ..)).1 (hx x (List.mem_cons_self ..)).2 he) (fun y hy => hx y (List.mem_cons_of_mem _ hy))
theorem AllIn.rows {nr : Int} (m : Nat) (t : Tbl) : ∀ (ys : List TRow) (r : Nat) {S : List GCell × Int}, AllIn nr S → (∀ j : Nat, j < ys.length → ((r + j : Nat) : Int) < endOf t (r + j : Nat) ∧ endOf t (r + j : Nat) ≤ nr) → (∀ y ∈ ys, ∀ x ∈ y.cs, 1 ≤ x.c ∧ 1 ≤ x.r) → AllIn nr (rowsSt m t ys r S)
 | [], _, _, h, _, _ => h
 | y :: ys, r, _, h, he, hx => AllIn.rows m t ys (r + 1) (AllIn.cells m t r (he 0 (by simp)) y.cs 0 h (hx y (List.mem_cons_self ..)))
   (fun j hj => by have := he (j + 1) (by simpa using hj); rw [show r + 1 + j = r + (j + 1) by omega]; exact this)
   (fun z hz => hx z (List.mem_cons_of_mem _ hz))
theorem end_le {t : Tbl} (h : tblOk t = true) (r : Int) : endOf t r ≤ t.rows.length := by
 have h1 := (tblOk_parts h).2.2.2.1
 have h2 := (tblOk_parts h).2.2.2.2.1
 unfold endOf
 split
 ·
  omega
 ·
  split <;> omega
theorem grid_in {t : Tbl} (h : tblOk t = true) (m : Nat) : AllIn t.rows.length (gridL m t) :=
 AllIn.rows m t t.rows 0 (fun c hc => by simp [grid0] at hc)
  (fun j hj => by rw [Nat.zero_add]; exact ⟨(end_bounds h hj).1, end_le h j⟩)
  (fun y hy x hx => by have := cellOk_parts (((tblOk_parts h).2.2.2.2.2.2 y hy).2 x hx); exact ⟨this.1.1, this.2.1⟩)
end Go.Proofs.YtpfagdmmhgcmnaaGreatDoor
