import Derived.Test.YtpfagdmmhgcmnaaGreatDoorMixTj
import Derived.Test.YtpfagdmmhgcmnaaGreatDoorMixTl
import Derived.Test.YtpfagdmmhgcmnaaGreatDoorMixDm
set_option linter.unusedVariables false
set_option linter.unusedSimpArgs false
namespace Go.Proofs.YtpfagdmmhgcmnaaGreatDoor
open Go.RowKit
def NeedOk (F : Nat) (nd : ByteArray → Int) : Prop :=
 (∀ args w, (callFunc F args).run Tryz.prog w = .ok (.enter F args) w) ∧ ∀ (s : ByteArray) (W : World), s.size ≤ 1048576 → Base W → Calls Tryz.prog F #[.string s] W fun e w' => e = .returned (.int .i64 (nd s)) ∧ Below W.heap.size W w'
def textOf (t : Tbl) (c : GCell) : ByteArray := ((t.rows.getD c.row.toNat default).cs.getD c.inn.toNat default).t
def CellAt (t : Tbl) (c : GCell) : Prop := (0 ≤ c.row ∧ c.row < t.rows.length) ∧ 0 ≤ c.inn ∧ c.inn < (t.rows.getD c.row.toNat default).cs.length
theorem text_at {w : World} {A' : Option Addr} {t : Tbl} {c : GCell} (hr : Rd rowR w A' t.rows) (h : CellAt t c) : ∃ (b o bx ox m cx r q : Nat), A' = some ⟨b, o, none⟩ ∧ c.row = r ∧ c.inn = q ∧ r < t.rows.length ∧ q < m ∧ w.cell? ⟨b, o + r * 2, none⟩ = some (.slice (some ⟨bx, ox, none⟩) m cx) ∧ w.cell? ⟨bx, ox + q * 11, none⟩ = some (.string (textOf t c)) ∧ (textOf t c).size ≤ 1048576 := by
 obtain ⟨⟨h1, h2⟩, h3, h4⟩ := h
 obtain ⟨r, hr0⟩ := Int.eq_ofNat_of_zero_le h1
 obtain ⟨q, hq0⟩ := Int.eq_ofNat_of_zero_le h3
 have hrl : r < t.rows.length := by omega
 obtain ⟨b, o, c0, c1, rfl, _, ⟨v, e, A, cc, rfl, _, hR⟩, k0, _⟩ := hr.at2 rfl (brefl _) r hrl
 have hrow : t.rows.getD c.row.toNat default = t.rows[r] := by rw [hr0, Int.toNat_natCast, List.getD_eq_getElem?_getD, List.getElem?_eq_getElem hrl]; rfl
 rw [hrow] at h4
 have hql : q < t.rows[r].cs.length := by omega
 simp only [List.cons.injEq, and_true] at e
 obtain ⟨rfl, _⟩ := e
 obtain ⟨bx, ox, d0, d1, d2, d3, d4, d5, d6, d7, d8, d9, d10, rfl, _, ⟨e2, hs⟩, l0, _⟩ := hR.at11 rfl (brefl _) q hql
 unfold cellE at e2
 simp only [List.cons.injEq] at e2
 have ht : textOf t c = t.rows[r].cs[q].t := by
  unfold textOf
  rw [hrow, hq0, Int.toNat_natCast, List.getD_eq_getElem?_getD, List.getElem?_eq_getElem hql]; rfl
 rw [ht]
 exact ⟨b, o, bx, ox, _, cc, r, q, rfl, hr0, hq0, hrl, hql, k0, by rw [l0, e2.1], hs⟩
def madeTo (gap : Int) (need : GCell → Int) (cells : List GCell) (n : Nat) : Nat → List Int
 | 0 => List.replicate n 0
 | k + 1 => madeS gap need (k + 1) cells (madeTo gap need cells n k)
theorem madeTo_four (gap : Int) (need : GCell → Int) (cells : List GCell) (n : Nat) : madeTo gap need cells n 4 = made gap need cells n := rfl
theorem madeTo_in {gap : Int} {need : GCell → Int} {cells : List GCell} {n : Nat} (hg : 0 ≤ gap) (hc : ∀ c ∈ cells, CellIn n need c) : ∀ k, ColsIn n (madeTo gap need cells n k)
 | 0 => ⟨by simp [madeTo], fun x hx => by rw [(List.mem_replicate.1 hx).2]; decide⟩
 | k + 1 => (madeS_spec (span := k + 1) hg (by omega) cells _ (madeTo_in hg hc k) hc).1
theorem madeS_take {gap : Int} {need : GCell → Int} {span : Nat} {cells : List GCell} {cols : List Int} {i : Nat} (h : i < cells.length) : madeS gap need span (cells.take (i + 1)) cols = stepCol gap need span (madeS gap need span (cells.take i) cols) cells[i] := by
 unfold madeS
 rw [List.take_succ_eq_append_getElem h, List.foldl_append]; rfl
set_option maxRecDepth 100000 in
set_option maxHeartbeats 20000000 in
theorem impl_made (t : Tbl) (A : Option Addr) (c : Nat) (A' : Option Addr) (c' : Nat) (gr : Int) (n : Nat) (cells : List GCell) (GA : Option Addr) (gc : Nat) (F : Nat) (nd : ByteArray → Int) (w : World) (hw : Base w) (hr : Rd rowR w A' t.rows) (hG : Rd gcR w GA cells) (hF : NeedOk F nd)
  (hg : 0 ≤ t.gap ∧ t.gap ≤ 3) (hn : 1 ≤ n ∧ n ≤ 1000) (hcell : ∀ x ∈ cells, CellIn n (fun c => nd (textOf t c)) x ∧ CellAt t x ∧ 0 ≤ nd (textOf t x)) (hcl : cells.length ≤ 1000) :
  Calls Tryz.prog 101 #[.agg #[.slice A t.cols.length c, .int .i64 t.head, .int .i64 t.foot, .slice A' t.rows.length c', .int .i64 t.gap], .agg #[.int .i64 gr, .int .i64 n, .slice GA cells.length gc], .func (.func F) #[] #[]] w fun e w' => ∃ v, e = .returned v ∧ IOwn w' w.heap.size v (made t.gap (fun c => nd (textOf t c)) cells n) ∧ Below w.heap.size w w' := by
 have HW := hide hw
 have HR := hide hr
 have HG := hide hG
 have HF := hide hF
 have HC := hide hcell
 have eg := hF.1
 clear hw hr hG hF hcell
 obtain ⟨need, hneed⟩ : ∃ f : GCell → Int, f = fun c => nd (textOf t c) := ⟨_, rfl⟩
 rw [← hneed] at HC ⊢
 have HND := hide hneed
 clear hneed
 have hmk := make_eq (P := Tryz.prog) (z := .int .i64 0) (k := 1) (bytes := 8) und_ints info_ints n (by omega) (by omega)
 go_enter Tryz.func101, Tryz.ntmps101
 go_wp2_with fail
 generalize hW3 : ((w.alloc _).alloc _).alloc _ = W3
 obtain ⟨T, hT⟩ : ∃ T, T = w.heap.size := ⟨_, rfl⟩
 have FW : Hid (BlockAt W3 T [.slice A t.cols.length c, .int .i64 t.head, .int .i64 t.foot, .slice A' t.rows.length c', .int .i64 t.gap] ∧ BlockAt W3 (T + 1) [.int .i64 gr, .int .i64 n, .slice GA cells.length gc] ∧ IOwn W3 (T + 2) (.slice (some ⟨T + 2, 0, none⟩) n n) (List.replicate n 0) ∧ Below w.heap.size w W3 ∧ T + 2 < W3.heap.size) := by
  subst hW3; subst hT
  have e1 : (w.alloc (.cells #[.slice A t.cols.length c, .int .i64 t.head, .int .i64 t.foot, .slice A' t.rows.length c', .int .i64 t.gap] 26)).heap.size = w.heap.size + 1 := by simp
  have e2 : ((w.alloc (.cells #[.slice A t.cols.length c, .int .i64 t.head, .int .i64 t.foot, .slice A' t.rows.length c', .int .i64 t.gap] 26)).alloc (.cells #[.int .i64 gr, .int .i64 n, .slice GA cells.length gc] 35)).heap.size = w.heap.size + 1 + 1 := by simp
  have m1 := BlockAt.new w [.slice A t.cols.length c, .int .i64 t.head, .int .i64 t.foot, .slice A' t.rows.length c', .int .i64 t.gap] 26
  have m2 := BlockAt.new (w.alloc (.cells #[.slice A t.cols.length c, .int .i64 t.head, .int .i64 t.foot, .slice A' t.rows.length c', .int .i64 t.gap] 26)) [.int .i64 gr, .int .i64 n, .slice GA cells.length gc] 35
  have m3 := made_ints ((w.alloc (.cells #[.slice A t.cols.length c, .int .i64 t.head, .int .i64 t.foot, .slice A' t.rows.length c', .int .i64 t.gap] 26)).alloc (.cells #[.int .i64 gr, .int .i64 n, .slice GA cells.length gc] 35)) (w.heap.size + 2) n (Nat.le_of_eq e2.symm) (by omega)
  rw [Nat.mul_one, e2] at m3
  rw [e1] at m2
  exact ⟨(m1.keep ((balloc (brefl _) _).block _ (by simp))).keep ((balloc (brefl _) _).block _ (by simp; omega)), m2.keep ((balloc (brefl _) _).block _ (by simp)), m3, balloc (balloc (balloc (brefl _) _) _) _, by simp⟩
 rw [← hT]
 have hT2 : T + 1 + 1 = T + 2 := rfl
 rw [hT2]
 have HTT := hide hT
 clear hW3 hT hT2 hmk
 have HIN := hide (fun k => madeTo_in (gap := t.gap) hg.1 (fun x hx => (HC.out x hx).1) k : ∀ k, ColsIn n (madeTo t.gap need cells n k))
 go_loopg [8] 4 (fun gg s8 wr => ∃ k : Nat, s8 = .int .i64 ((k + 1 : Nat) : Int) ∧ k ≤ 4 ∧ 4 - k ≤ gg ∧ Aside (W3.grownBy wr (some (T + 2))) ∧ Aside (IOwn wr (T + 2) (.slice (some ⟨T + 2, 0, none⟩) n n) (madeTo t.gap need cells n k)))
 case atStart => exact ⟨0, rfl, by omega, by omega, grow_refl _ _, FW.out.2.2.1⟩
 case round =>
  obtain ⟨k, rfl, hk, hgg, HGR, HO⟩ := hrel
  obtain ⟨sp, hsp⟩ : ∃ sp, sp = k + 1 := ⟨_, rfl⟩
  rw [← hsp]
  have HSP := hide hsp
  have hkeepT := fun (W : World) (hg : W3.grownBy W (some (T + 2))) => FW.out.1.keep (grow_blk hg (by omega) (by have := FW.out.2.2.2.2; omega))
  have hkeepG := fun (W : World) (hg : W3.grownBy W (some (T + 2))) => FW.out.2.1.keep (grow_blk hg (by omega) (by have := FW.out.2.2.2.2; omega))
  have hkeepW := fun (W : World) (hg : W3.grownBy W (some (T + 2))) => FW.out.2.2.2.1.trans (grown_below hg (by have := FW.out.2.2.2.1.size; omega) (fun q hq => by injection hq with hq; have := HTT.out; omega))
  have KT := hide hkeepT
  have KG := hide hkeepG
  have KW := hide hkeepW
  clear hkeepT hkeepG hkeepW
  by_cases hlt : k < 4
  ·
   have hltz : (sp : Int) ≤ 4 := by omega
   have hg1 := (KG.out wr HGR.out).1 1 _ rfl
   have hg2 := (KG.out wr HGR.out).1 2 _ rfl
   have hsp1 : 1 ≤ sp ∧ sp ≤ 4 := by omega
   clear hsp
   go_wp2_with fail
   go_loopg [25] cells.length (fun g2 s25 wr => ∃ i : Nat, s25 = .int .i64 i ∧ i ≤ cells.length ∧ cells.length - i ≤ g2 ∧ Aside (W3.grownBy wr (some (T + 2))) ∧ Aside (IOwn wr (T + 2) (.slice (some ⟨T + 2, 0, none⟩) n n) (madeS t.gap need sp (cells.take i) (madeTo t.gap need cells n k))))
   case atStart => exact ⟨0, rfl, Nat.zero_le _, by omega, HGR.out, (show Aside _ from by show IOwn _ _ _ _; rw [List.take_zero]; exact HO.out)⟩
   case round =>
    obtain ⟨i, rfl, hil, hg2, HGR2, HO2⟩ := hrel
    clear HGR HO hg1
    by_cases hlt2 : i < cells.length
    ·
     have hltz2 : (i : Int) < (cells.length : Int) := by omega
     obtain ⟨gb, go, x0, x1, x2, x3, x4, rfl, _, ⟨ex, hsm⟩, k0, k1, k2, k3, k4⟩ := HG.out.at5 rfl (KW.out wr HGR2.out) i hlt2
     obtain ⟨hci, hca, hnn⟩ := HC.out cells[i] (List.getElem_mem hlt2)
     have hst := madeS_take (gap := t.gap) (need := need) (span := sp) (cols := madeTo t.gap need cells n k) hlt2
     have hci2 := (madeS_spec (span := sp) hg.1 hsp1.1 (cells.take i) _ (HIN.out k) (fun x hx => (HC.out x (List.mem_of_mem_take hx)).1)).1
     generalize madeS t.gap need sp (cells.take i) (madeTo t.gap need cells n k) = X at HO2 hst hci2
     generalize cells[i] = cc at ex hci hca hnn hst
     have q : [x0, x1, x2, x3, x4] = [.int .i64 cc.row, .int .i64 cc.col, .int .i64 cc.rows, .int .i64 cc.cols, .int .i64 cc.inn] := ex
     simp only [List.cons.injEq, and_true] at q
     obtain ⟨rfl, rfl, rfl, rfl, rfl⟩ := q
     obtain ⟨a1, a2, a3, a4, a5⟩ := hci
     obtain ⟨rb, ro, bx, ox, mx, cx, r, tq, hAe, er, eq2, hrl, hql, fa, fb, htx⟩ := text_at (HR.out.below (KW.out wr HGR2.out)) hca
     subst hAe
     obtain ⟨tx, htxe⟩ : ∃ tx, textOf t cc = tx := ⟨_, rfl⟩
     rw [htxe] at fb htx
     have hnd : need cc = nd tx := by rw [HND.out]; show nd (textOf t cc) = nd tx; rw [htxe]
     obtain ⟨ac, ha⟩ := Int.eq_ofNat_of_zero_le a1
     rw [er] at k0
     rw [ha] at k1
     rw [eq2] at k4
     have hrz : (r : Int) < (t.rows.length : Int) := by omega
     have hqz : (tq : Int) < (mx : Int) := by omega
     have HTX := hide htxe
     have HND2 := hide hnd
     have HST := hide hst
     have HCA := hide hca
     have HNN := hide hnn
     clear htxe hnd
     have HX := hide hci2
     clear hst hca hnn hci2 ex hsm
     by_cases heq : cc.cols = (sp : Int)
     ·
      have heq1 : ((sp : Int) != (sp : Int)) = false := by simp
      rw [heq] at k3
      have hap : ac + sp ≤ n := by omega
      obtain ⟨ae, hae⟩ : ∃ ae, ae = ac + sp := ⟨_, rfl⟩
      have t1 : IntKind.i64.wrap ((ac : Int) + (sp : Int)) = (ae : Int) := by rw [IntKind.wrap_i64]; omega
      have hae1 : ae ≤ n := by omega
      have hae2 : ac ≤ ae := by omega
      have hae3 : (ac : Int) ≤ (ae : Int) := by omega
      have hae4 : (ae : Int) ≤ (n : Int) := by omega
      have hna : ¬ n = ac := by omega
      have HAE := hide hae
      clear hae
      go_upto_region 10 with fail
      have hsa : ae - ac = sp := by have := HAE.out; omega
      rw [hsa]
      obtain ⟨C, hC⟩ : ∃ C, C = wr.heap.size := ⟨_, rfl⟩
      rw [← hC]
      generalize hW4 : wr.alloc _ = W4
      have hb4 : Below wr.heap.size wr W4.drew := bdrew (by rw [← hW4]; exact balloc (brefl _) _)
      have fC : BlockAt W4.drew C [.int .i64 r, .int .i64 ac, .int .i64 cc.rows, .int .i64 sp, .int .i64 tq] := by
       rw [← hW4, hC]; exact (BlockAt.new wr _ _).keep ((bdrew (brefl _)).block _ (by simp))
      have fT := (KT.out wr HGR2.out).keep (hb4.block T (by have := HGR2.out.size; have := FW.out.2.2.2.2; omega))
      have HO4 : Hid (IOwn W4.drew (T + 2) (.slice (some ⟨T + 2, 0, none⟩) n n) X) := HO2.out.below hb4
      have HGR4 := hide (grow_trans HGR2.out (grow_below hb4))
      have fa4 := keepC hb4 fa
      have fb4 := keepC hb4 fb
      have KWB := hide (step (KW.out wr HGR2.out) hb4)
      have fT0 := fT.1 0 _ rfl
      have fT1 := fT.1 1 _ rfl
      have fT2 := fT.1 2 _ rfl
      have fT3 := fT.1 3 _ rfl
      have fT4 := fT.1 4 _ rfl
      have fC0 := fC.1 0 _ rfl
      have fC1 := fC.1 1 _ rfl
      have fC2 := fC.1 2 _ rfl
      have fC3 := fC.1 3 _ rfl
      have fC4 := fC.1 4 _ rfl
      have hC4 : C < W4.drew.heap.size := by rw [← hW4, hC]; simp
      have HC4 := hide hC4
      have hgT : T + 2 < C := by have := HGR2.out.size; have := FW.out.2.2.2.2; omega
      have hwn := winS_nonneg HX.out ac sp
      have hwl : ((X.drop ac).take sp).length = sp := win_length HX.out.1 (by omega)
      have hwb : ∀ x ∈ (X.drop ac).take sp, 0 ≤ x ∧ x ≤ 30 := fun x hx => HX.out.2 x (List.mem_of_mem_drop (List.mem_of_mem_take hx))
      have hws : winS X ac sp ≤ 30 * (sp : Int) := by
       have := sumI_le (l := (X.drop ac).take sp) (m := 30) (fun x hx => (hwb x hx).2)
       rw [hwl] at this
       exact this
      have HRW := hide (rd_sub (HO4.out.at_rd) rfl ac sp)
      have HSUM : Hid (∀ W, Below W4.drew.heap.size W4.drew W → Calls Tryz.prog 112 #[.slice (some ⟨T + 2, ac, none⟩) sp (n - ac)] W fun e w' => e = .returned (.int .i64 (winS X ac sp)) ∧ w' = W) := fun W hb => by
       have h1 := HRW.out.below hb
       rw [Nat.zero_add] at h1
       have h2 := impl_sumOf (some ⟨T + 2, ac, none⟩) (n - ac) ((X.drop ac).take sp) W h1 (fun x hx => by have := hwb x hx; omega) (by rw [hwl]; omega)
       rw [hwl] at h2
       exact h2
      have HWL := hide hwl
      have HWB := hide hwb
      have hst := HST.out
      unfold stepCol at hst
      rw [if_pos heq, ha, Int.toNat_natCast, HND2.out] at hst
      have HNZ : Hid (0 ≤ nd tx ∧ nd tx ≤ 30) := by
       have h1 := HNN.out
       have h2 := a5
       rw [HND2.out] at h2
       have h3 : nd tx = need cc := HND2.out.symm
       refine ⟨?_, h2⟩
       rw [h3]
       have := h1
       rw [HND.out]
       exact this
      have hnz := HNZ.out
      obtain ⟨N, hN⟩ : ∃ N, nd tx = N := ⟨_, rfl⟩
      obtain ⟨Wn, hWn⟩ : ∃ Wn, winS X ac sp = Wn := ⟨_, rfl⟩
      rw [hN] at hst hnz
      rw [hWn] at hst hwn hws HSUM
      obtain ⟨gs, hgs⟩ : ∃ gs, t.gap * ((sp : Int) - 1) = gs := ⟨_, rfl⟩
      have hgs0 : 0 ≤ gs ∧ gs ≤ 9 := by
       rw [← hgs]
       refine ⟨Int.mul_nonneg hg.1 (by omega), ?_⟩
       have h1 : t.gap * ((sp : Int) - 1) ≤ 3 * ((sp : Int) - 1) := Int.mul_le_mul_of_nonneg_right hg.2 (by omega)
       omega
      rw [hgs] at hst
      have tw1 : IntKind.i64.wrap (N - Wn) = N - Wn := by rw [IntKind.wrap_i64]; omega
      have tw2 : IntKind.i64.wrap ((sp : Int) - 1) = (sp : Int) - 1 := by rw [IntKind.wrap_i64]; omega
      have tw3 : IntKind.i64.wrap (t.gap * ((sp : Int) - 1)) = gs := by rw [hgs, IntKind.wrap_i64]; omega
      have tw4 : IntKind.i64.wrap (N - Wn - gs) = N - Wn - gs := by rw [IntKind.wrap_i64]; omega
      have HNN2 := hide hN
      have HST2 := hide hst
      have HGS := hide hgs
      have HCC := hide hC
      clear hC hst HST hN hWn hgs hwl hwb fa fb fC fT hW4 hb4 HRW HNZ k0 k1 k2 k3 k4 a5
      obtain ⟨vals, hvals⟩ : ∃ f : Nat → Value, f = (fun j => match j with | 0 => .func (Fn.func F) #[] #[] | 1 => .pointer (some ⟨T, 3, none⟩) | 2 => .slice (some ⟨rb, ro, none⟩) t.rows.length c' | 3 => .pointer (some ⟨C, 0, none⟩) | 4 => .int .i64 r | 5 => .pointer (some ⟨rb, ro + r * 2, none⟩) | 6 => .pointer (some ⟨rb, ro + r * 2, none⟩) | 7 => .slice (some ⟨bx, ox, none⟩) mx cx | 8 => .pointer (some ⟨C, 4, none⟩) | 9 => .int .i64 tq | 10 => .pointer (some ⟨bx, ox + tq * 11, none⟩) | 11 => .pointer (some ⟨bx, ox + tq * 11, none⟩) | 12 => .string tx | 13 => .int .i64 N | 14 => .slice (some ⟨T + 2, ac, none⟩) sp (n - ac) | 15 => .int .i64 Wn | 16 => .int .i64 (N - Wn) | 17 => .pointer (some ⟨T, 4, none⟩) | 18 => .int .i64 t.gap | 19 => .int .i64 ↑sp | 20 => .int .i64 ((sp : Int) - 1) | 21 => .int .i64 gs | 22 => .int .i64 (N - Wn - gs) | 23 => .int .i64 (N - Wn - gs) | _ => undef) := ⟨_, rfl⟩
      have e0 : vals 0 = .func (Fn.func F) #[] #[] := congrFun hvals 0
      have e1 : vals 1 = .pointer (some ⟨T, 3, none⟩) := congrFun hvals 1
      have e2 : vals 2 = .slice (some ⟨rb, ro, none⟩) t.rows.length c' := congrFun hvals 2
      have e3 : vals 3 = .pointer (some ⟨C, 0, none⟩) := congrFun hvals 3
      have e4 : vals 4 = .int .i64 r := congrFun hvals 4
      have e5 : vals 5 = .pointer (some ⟨rb, ro + r * 2, none⟩) := congrFun hvals 5
      have e6 : vals 6 = .pointer (some ⟨rb, ro + r * 2, none⟩) := congrFun hvals 6
      have e7 : vals 7 = .slice (some ⟨bx, ox, none⟩) mx cx := congrFun hvals 7
      have e8 : vals 8 = .pointer (some ⟨C, 4, none⟩) := congrFun hvals 8
      have e9 : vals 9 = .int .i64 tq := congrFun hvals 9
      have e10 : vals 10 = .pointer (some ⟨bx, ox + tq * 11, none⟩) := congrFun hvals 10
      have e11 : vals 11 = .pointer (some ⟨bx, ox + tq * 11, none⟩) := congrFun hvals 11
      have e12 : vals 12 = .string tx := congrFun hvals 12
      have e13 : vals 13 = .int .i64 N := congrFun hvals 13
      have e14 : vals 14 = .slice (some ⟨T + 2, ac, none⟩) sp (n - ac) := congrFun hvals 14
      have e15 : vals 15 = .int .i64 Wn := congrFun hvals 15
      have e16 : vals 16 = .int .i64 (N - Wn) := congrFun hvals 16
      have e17 : vals 17 = .pointer (some ⟨T, 4, none⟩) := congrFun hvals 17
      have e18 : vals 18 = .int .i64 t.gap := congrFun hvals 18
      have e19 : vals 19 = .int .i64 ↑sp := congrFun hvals 19
      have e20 : vals 20 = .int .i64 ((sp : Int) - 1) := congrFun hvals 20
      have e21 : vals 21 = .int .i64 gs := congrFun hvals 21
      have e22 : vals 22 = .int .i64 (N - Wn - gs) := congrFun hvals 22
      have e23 : vals 23 = .int .i64 (N - Wn - gs) := congrFun hvals 23
      clear hvals
      refine wp_region_inv (fun l a W => ∃ vs : Nat → Value, a = ⟨List.toArray (.agg #[.slice A t.cols.length c, .int .i64 t.head, .int .i64 t.foot, .slice (some ⟨rb, ro, none⟩) t.rows.length c', .int .i64 t.gap] :: .agg #[.int .i64 gr, .int .i64 ↑n, .slice (some ⟨gb, go, none⟩) cells.length gc] :: .func (Fn.func F) #[] #[] :: .pointer (some ⟨T, 0, none⟩) :: .pointer (some ⟨T + 1, 0, none⟩) :: undef :: .slice none 0 0 :: .slice (some ⟨T + 2, 0, none⟩) n n :: .int .i64 ↑sp :: undef :: .pointer (some ⟨C, 0, none⟩) :: .slice (some ⟨T + 2, ac, none⟩) sp (n - ac) :: vs 23 :: u13 :: u14 :: .pointer (some ⟨T + 1, 1, none⟩) :: .int .i64 ↑n :: .slice (some ⟨T + 2, 0, none⟩) n n :: .int .i64 ↑sp :: .bool true :: u20 :: u21 :: .pointer (some ⟨T + 1, 2, none⟩) :: .slice (some ⟨gb, go, none⟩) cells.length gc :: .int .i64 ↑cells.length :: .int .i64 ↑i :: .bool true :: .pointer (some ⟨gb, go + i * 5, none⟩) :: .agg #[.int .i64 ↑r, .int .i64 ↑ac, .int .i64 cc.rows, .int .i64 ↑sp, .int .i64 ↑tq] :: .pointer (some ⟨C, 3, none⟩) :: .int .i64 ↑sp :: .int .i64 ↑sp :: .bool false :: .slice (some ⟨T + 2, 0, none⟩) n n :: .pointer (some ⟨C, 1, none⟩) :: .int .i64 ↑ac :: .pointer (some ⟨C, 1, none⟩) :: .int .i64 ↑ac :: .int .i64 ↑sp :: .int .i64 ↑ae :: .slice (some ⟨T + 2, ac, none⟩) sp (n - ac) :: vs 0 :: vs 1 :: vs 2 :: vs 3 :: vs 4 :: vs 5 :: vs 6 :: vs 7 :: vs 8 :: vs 9 :: vs 10 :: vs 11 :: vs 12 :: vs 13 :: vs 14 :: vs 15 :: vs 16 :: vs 17 :: vs 18 :: vs 19 :: vs 20 :: vs 21 :: vs 22 :: u64 :: u65 :: u66 :: u67 :: u68 :: u69 :: u70 :: u71 :: u72 :: u73 :: u74 :: u75 :: u76 :: u77 :: u78 :: u79 :: u80 :: u81 :: u82 :: u83 :: undef :: []), []⟩ ∧ BMid vals 24 (W4.drew) l vs W) (by kernel_rfl) ?top ?start ?step ?fin
      case top =>
       clear e0 e1 e2 e3 e4 e5 e6 e7 e8 e9 e10 e11 e12 e13 e14 e15 e16 e17 e18 e19 e20 e21 e22 e23
       intro j o ho e he
       have hj : j < 24 := (Array.getElem?_eq_some_iff.1 ho).1
       have hA : (o.after.all fun e => decide (e.on < j)) = true := by
        obtain rfl | rfl | rfl | rfl | rfl | rfl | rfl | rfl | rfl | rfl | rfl | rfl | rfl | rfl | rfl | rfl | rfl | rfl | rfl | rfl | rfl | rfl | rfl | rfl : j = 0 ∨ j = 1 ∨ j = 2 ∨ j = 3 ∨ j = 4 ∨ j = 5 ∨ j = 6 ∨ j = 7 ∨ j = 8 ∨ j = 9 ∨ j = 10 ∨ j = 11 ∨ j = 12 ∨ j = 13 ∨ j = 14 ∨ j = 15 ∨ j = 16 ∨ j = 17 ∨ j = 18 ∨ j = 19 ∨ j = 20 ∨ j = 21 ∨ j = 22 ∨ j = 23 := by omega
        all_goals
         simp only [List.getElem?_toArray, List.getElem?_cons_zero, List.getElem?_cons_succ, Option.some.injEq] at ho
         subst ho
         first | decide | kernel_rfl | simp
       simpa using Array.all_eq_true'.1 hA e he
      case start => exact ⟨(fun j => match j with | 0 => u41 | 1 => u42 | 2 => u43 | 3 => u44 | 4 => u45 | 5 => u46 | 6 => u47 | 7 => u48 | 8 => u49 | 9 => u50 | 10 => u51 | 11 => u52 | 12 => u53 | 13 => u54 | 14 => u55 | 15 => u56 | 16 => u57 | 17 => u58 | 18 => u59 | 19 => u60 | 20 => u61 | 21 => u62 | 22 => u63 | 23 => u12 | _ => undef), rfl, BMid.start⟩
      case step =>
       rintro l a W i o ho hl hpre hsz ⟨vs, rfl, hM⟩ K hK
       have hi : i < 24 := (Array.getElem?_eq_some_iff.1 ho).1
       obtain rfl | rfl | rfl | rfl | rfl | rfl | rfl | rfl | rfl | rfl | rfl | rfl | rfl | rfl | rfl | rfl | rfl | rfl | rfl | rfl | rfl | rfl | rfl | rfl : i = 0 ∨ i = 1 ∨ i = 2 ∨ i = 3 ∨ i = 4 ∨ i = 5 ∨ i = 6 ∨ i = 7 ∨ i = 8 ∨ i = 9 ∨ i = 10 ∨ i = 11 ∨ i = 12 ∨ i = 13 ∨ i = 14 ∨ i = 15 ∨ i = 16 ∨ i = 17 ∨ i = 18 ∨ i = 19 ∨ i = 20 ∨ i = 21 ∨ i = 22 ∨ i = 23 := by omega
       ·
        simp only [List.getElem?_toArray, List.getElem?_cons_zero, List.getElem?_cons_succ, Option.some.injEq] at ho
        subst ho
        have e := e0
        clear e0 e1 e2 e3 e4 e5 e6 e7 e8 e9 e10 e11 e12 e13 e14 e15 e16 e17 e18 e19 e20 e21 e22 e23
        go_simp
        exact hK.out _ _ ⟨updV vs 0 (.func (Fn.func F) #[] #[]), rfl, hM.still 0 _ e.symm⟩
       ·
        simp only [List.getElem?_toArray, List.getElem?_cons_zero, List.getElem?_cons_succ, Option.some.injEq] at ho
        subst ho
        have e := e1
        clear e0 e1 e2 e3 e4 e5 e6 e7 e8 e9 e10 e11 e12 e13 e14 e15 e16 e17 e18 e19 e20 e21 e22 e23
        go_simp
        exact hK.out _ _ ⟨updV vs 1 (.pointer (some ⟨T, 3, none⟩)), rfl, hM.still 1 _ e.symm⟩
       ·
        simp only [List.getElem?_toArray, List.getElem?_cons_zero, List.getElem?_cons_succ, Option.some.injEq] at ho
        subst ho
        have v1 : vs 1 = .pointer (some ⟨T, 3, none⟩) := (hM.held 1 (hpre ⟨1, .data⟩ (by simp) rfl)).trans e1
        have e := e2
        clear e0 e1 e2 e3 e4 e5 e6 e7 e8 e9 e10 e11 e12 e13 e14 e15 e16 e17 e18 e19 e20 e21 e22 e23
        have x0 := keepW hM.below fT3
        rw [v1]
        go_simp
        exact hK.out _ _ ⟨updV vs 2 (.slice (some ⟨rb, ro, none⟩) t.rows.length c'), by simp [updV, v1], hM.still 2 _ e.symm⟩
       ·
        simp only [List.getElem?_toArray, List.getElem?_cons_zero, List.getElem?_cons_succ, Option.some.injEq] at ho
        subst ho
        have e := e3
        clear e0 e1 e2 e3 e4 e5 e6 e7 e8 e9 e10 e11 e12 e13 e14 e15 e16 e17 e18 e19 e20 e21 e22 e23
        go_simp
        exact hK.out _ _ ⟨updV vs 3 (.pointer (some ⟨C, 0, none⟩)), rfl, hM.still 3 _ e.symm⟩
       ·
        simp only [List.getElem?_toArray, List.getElem?_cons_zero, List.getElem?_cons_succ, Option.some.injEq] at ho
        subst ho
        have v3 : vs 3 = .pointer (some ⟨C, 0, none⟩) := (hM.held 3 (hpre ⟨3, .data⟩ (by simp) rfl)).trans e3
        have e := e4
        clear e0 e1 e2 e3 e4 e5 e6 e7 e8 e9 e10 e11 e12 e13 e14 e15 e16 e17 e18 e19 e20 e21 e22 e23
        have x0 := keepW hM.below fC0
        rw [v3]
        go_simp
        exact hK.out _ _ ⟨updV vs 4 (.int .i64 r), by simp [updV, v3], hM.still 4 _ e.symm⟩
       ·
        simp only [List.getElem?_toArray, List.getElem?_cons_zero, List.getElem?_cons_succ, Option.some.injEq] at ho
        subst ho
        have v2 : vs 2 = .slice (some ⟨rb, ro, none⟩) t.rows.length c' := (hM.held 2 (hpre ⟨2, .data⟩ (by simp) rfl)).trans e2
        have v4 : vs 4 = .int .i64 r := (hM.held 4 (hpre ⟨4, .data⟩ (by simp) rfl)).trans e4
        have e := e5
        clear e0 e1 e2 e3 e4 e5 e6 e7 e8 e9 e10 e11 e12 e13 e14 e15 e16 e17 e18 e19 e20 e21 e22 e23
        rw [v2, v4]
        go_simp
        exact hK.out _ _ ⟨updV vs 5 (.pointer (some ⟨rb, ro + r * 2, none⟩)), by simp [updV, v2, v4], hM.still 5 _ e.symm⟩
       ·
        simp only [List.getElem?_toArray, List.getElem?_cons_zero, List.getElem?_cons_succ, Option.some.injEq] at ho
        subst ho
        have v5 : vs 5 = .pointer (some ⟨rb, ro + r * 2, none⟩) := (hM.held 5 (hpre ⟨5, .data⟩ (by simp) rfl)).trans e5
        have e := e6
        clear e0 e1 e2 e3 e4 e5 e6 e7 e8 e9 e10 e11 e12 e13 e14 e15 e16 e17 e18 e19 e20 e21 e22 e23
        rw [v5]
        go_simp
        exact hK.out _ _ ⟨updV vs 6 (.pointer (some ⟨rb, ro + r * 2, none⟩)), by simp [updV, v5], hM.still 6 _ e.symm⟩
       ·
        simp only [List.getElem?_toArray, List.getElem?_cons_zero, List.getElem?_cons_succ, Option.some.injEq] at ho
        subst ho
        have v6 : vs 6 = .pointer (some ⟨rb, ro + r * 2, none⟩) := (hM.held 6 (hpre ⟨6, .data⟩ (by simp) rfl)).trans e6
        have e := e7
        clear e0 e1 e2 e3 e4 e5 e6 e7 e8 e9 e10 e11 e12 e13 e14 e15 e16 e17 e18 e19 e20 e21 e22 e23
        have x0 := keepW hM.below fa4
        rw [v6]
        go_simp
        exact hK.out _ _ ⟨updV vs 7 (.slice (some ⟨bx, ox, none⟩) mx cx), by simp [updV, v6], hM.still 7 _ e.symm⟩
       ·
        simp only [List.getElem?_toArray, List.getElem?_cons_zero, List.getElem?_cons_succ, Option.some.injEq] at ho
        subst ho
        have e := e8
        clear e0 e1 e2 e3 e4 e5 e6 e7 e8 e9 e10 e11 e12 e13 e14 e15 e16 e17 e18 e19 e20 e21 e22 e23
        go_simp
        exact hK.out _ _ ⟨updV vs 8 (.pointer (some ⟨C, 4, none⟩)), rfl, hM.still 8 _ e.symm⟩
       ·
        simp only [List.getElem?_toArray, List.getElem?_cons_zero, List.getElem?_cons_succ, Option.some.injEq] at ho
        subst ho
        have v8 : vs 8 = .pointer (some ⟨C, 4, none⟩) := (hM.held 8 (hpre ⟨8, .data⟩ (by simp) rfl)).trans e8
        have e := e9
        clear e0 e1 e2 e3 e4 e5 e6 e7 e8 e9 e10 e11 e12 e13 e14 e15 e16 e17 e18 e19 e20 e21 e22 e23
        have x0 := keepW hM.below fC4
        rw [v8]
        go_simp
        exact hK.out _ _ ⟨updV vs 9 (.int .i64 tq), by simp [updV, v8], hM.still 9 _ e.symm⟩
       ·
        simp only [List.getElem?_toArray, List.getElem?_cons_zero, List.getElem?_cons_succ, Option.some.injEq] at ho
        subst ho
        have v7 : vs 7 = .slice (some ⟨bx, ox, none⟩) mx cx := (hM.held 7 (hpre ⟨7, .data⟩ (by simp) rfl)).trans e7
        have v9 : vs 9 = .int .i64 tq := (hM.held 9 (hpre ⟨9, .data⟩ (by simp) rfl)).trans e9
        have e := e10
        clear e0 e1 e2 e3 e4 e5 e6 e7 e8 e9 e10 e11 e12 e13 e14 e15 e16 e17 e18 e19 e20 e21 e22 e23
        rw [v7, v9]
        go_simp
        exact hK.out _ _ ⟨updV vs 10 (.pointer (some ⟨bx, ox + tq * 11, none⟩)), by simp [updV, v7, v9], hM.still 10 _ e.symm⟩
       ·
        simp only [List.getElem?_toArray, List.getElem?_cons_zero, List.getElem?_cons_succ, Option.some.injEq] at ho
        subst ho
        have v10 : vs 10 = .pointer (some ⟨bx, ox + tq * 11, none⟩) := (hM.held 10 (hpre ⟨10, .data⟩ (by simp) rfl)).trans e10
        have e := e11
        clear e0 e1 e2 e3 e4 e5 e6 e7 e8 e9 e10 e11 e12 e13 e14 e15 e16 e17 e18 e19 e20 e21 e22 e23
        rw [v10]
        go_simp
        exact hK.out _ _ ⟨updV vs 11 (.pointer (some ⟨bx, ox + tq * 11, none⟩)), by simp [updV, v10], hM.still 11 _ e.symm⟩
       ·
        simp only [List.getElem?_toArray, List.getElem?_cons_zero, List.getElem?_cons_succ, Option.some.injEq] at ho
        subst ho
        have v11 : vs 11 = .pointer (some ⟨bx, ox + tq * 11, none⟩) := (hM.held 11 (hpre ⟨11, .data⟩ (by simp) rfl)).trans e11
        have e := e12
        clear e0 e1 e2 e3 e4 e5 e6 e7 e8 e9 e10 e11 e12 e13 e14 e15 e16 e17 e18 e19 e20 e21 e22 e23
        have x0 := keepW hM.below fb4
        rw [v11]
        go_simp
        exact hK.out _ _ ⟨updV vs 12 (.string tx), by simp [updV, v11], hM.still 12 _ e.symm⟩
       ·
        simp only [List.getElem?_toArray, List.getElem?_cons_zero, List.getElem?_cons_succ, Option.some.injEq] at ho
        subst ho
        have v0 : vs 0 = .func (Fn.func F) #[] #[] := (hM.held 0 (hpre ⟨0, .data⟩ (by simp) rfl)).trans e0
        have v12 : vs 12 = .string tx := (hM.held 12 (hpre ⟨12, .data⟩ (by simp) rfl)).trans e12
        have e := e13
        clear e0 e1 e2 e3 e4 e5 e6 e7 e8 e9 e10 e11 e12 e13 e14 e15 e16 e17 e18 e19 e20 e21 e22 e23
        have hI := HF.out.2 tx W htx (HW.out.below (step KWB.out hM.below))
        rw [HNN2.out] at hI
        rw [v0, v12]
        go_simp
        refine (hI).mono ?_
        rintro e5 W5 ⟨rfl, hb5⟩
        exact hK.out _ _ ⟨updV vs 13 (.int .i64 N), by simp [updV, v0, v12], hM.next 13 _ e.symm hb5⟩
       ·
        simp only [List.getElem?_toArray, List.getElem?_cons_zero, List.getElem?_cons_succ, Option.some.injEq] at ho
        subst ho
        have e := e14
        clear e0 e1 e2 e3 e4 e5 e6 e7 e8 e9 e10 e11 e12 e13 e14 e15 e16 e17 e18 e19 e20 e21 e22 e23
        go_simp
        exact hK.out _ _ ⟨updV vs 14 (.slice (some ⟨T + 2, ac, none⟩) sp (n - ac)), rfl, hM.still 14 _ e.symm⟩
       ·
        simp only [List.getElem?_toArray, List.getElem?_cons_zero, List.getElem?_cons_succ, Option.some.injEq] at ho
        subst ho
        have v14 : vs 14 = .slice (some ⟨T + 2, ac, none⟩) sp (n - ac) := (hM.held 14 (hpre ⟨14, .data⟩ (by simp) rfl)).trans e14
        have v13 : vs 13 = .int .i64 N := (hM.held 13 (hpre ⟨13, .chain⟩ (by simp) rfl)).trans e13
        have e := e15
        clear e0 e1 e2 e3 e4 e5 e6 e7 e8 e9 e10 e11 e12 e13 e14 e15 e16 e17 e18 e19 e20 e21 e22 e23
        have hI := HSUM.out W hM.below
        rw [v14, v13]
        go_simp
        refine (hI).mono ?_
        rintro e5 W5 ⟨rfl, hw5⟩
        exact hK.out _ _ ⟨updV vs 15 (.int .i64 Wn), by simp [updV, v14, v13], hM.next 15 _ e.symm (by rw [hw5]; exact brefl _)⟩
       ·
        simp only [List.getElem?_toArray, List.getElem?_cons_zero, List.getElem?_cons_succ, Option.some.injEq] at ho
        subst ho
        have v13 : vs 13 = .int .i64 N := (hM.held 13 (hpre ⟨13, .data⟩ (by simp) rfl)).trans e13
        have v15 : vs 15 = .int .i64 Wn := (hM.held 15 (hpre ⟨15, .data⟩ (by simp) rfl)).trans e15
        have e := e16
        clear e0 e1 e2 e3 e4 e5 e6 e7 e8 e9 e10 e11 e12 e13 e14 e15 e16 e17 e18 e19 e20 e21 e22 e23
        rw [v13, v15]
        go_simp
        exact hK.out _ _ ⟨updV vs 16 (.int .i64 (N - Wn)), by simp [updV, v13, v15], hM.still 16 _ e.symm⟩
       ·
        simp only [List.getElem?_toArray, List.getElem?_cons_zero, List.getElem?_cons_succ, Option.some.injEq] at ho
        subst ho
        have e := e17
        clear e0 e1 e2 e3 e4 e5 e6 e7 e8 e9 e10 e11 e12 e13 e14 e15 e16 e17 e18 e19 e20 e21 e22 e23
        go_simp
        exact hK.out _ _ ⟨updV vs 17 (.pointer (some ⟨T, 4, none⟩)), rfl, hM.still 17 _ e.symm⟩
       ·
        simp only [List.getElem?_toArray, List.getElem?_cons_zero, List.getElem?_cons_succ, Option.some.injEq] at ho
        subst ho
        have v17 : vs 17 = .pointer (some ⟨T, 4, none⟩) := (hM.held 17 (hpre ⟨17, .data⟩ (by simp) rfl)).trans e17
        have e := e18
        clear e0 e1 e2 e3 e4 e5 e6 e7 e8 e9 e10 e11 e12 e13 e14 e15 e16 e17 e18 e19 e20 e21 e22 e23
        have x0 := keepW hM.below fT4
        rw [v17]
        go_simp
        exact hK.out _ _ ⟨updV vs 18 (.int .i64 t.gap), by simp [updV, v17], hM.still 18 _ e.symm⟩
       ·
        simp only [List.getElem?_toArray, List.getElem?_cons_zero, List.getElem?_cons_succ, Option.some.injEq] at ho
        subst ho
        have e := e19
        clear e0 e1 e2 e3 e4 e5 e6 e7 e8 e9 e10 e11 e12 e13 e14 e15 e16 e17 e18 e19 e20 e21 e22 e23
        go_simp
        exact hK.out _ _ ⟨updV vs 19 (.int .i64 ↑sp), rfl, hM.still 19 _ e.symm⟩
       ·
        simp only [List.getElem?_toArray, List.getElem?_cons_zero, List.getElem?_cons_succ, Option.some.injEq] at ho
        subst ho
        have v19 : vs 19 = .int .i64 ↑sp := (hM.held 19 (hpre ⟨19, .data⟩ (by simp) rfl)).trans e19
        have e := e20
        clear e0 e1 e2 e3 e4 e5 e6 e7 e8 e9 e10 e11 e12 e13 e14 e15 e16 e17 e18 e19 e20 e21 e22 e23
        rw [v19]
        go_simp
        exact hK.out _ _ ⟨updV vs 20 (.int .i64 ((sp : Int) - 1)), by simp [updV, v19], hM.still 20 _ e.symm⟩
       ·
        simp only [List.getElem?_toArray, List.getElem?_cons_zero, List.getElem?_cons_succ, Option.some.injEq] at ho
        subst ho
        have v18 : vs 18 = .int .i64 t.gap := (hM.held 18 (hpre ⟨18, .data⟩ (by simp) rfl)).trans e18
        have v20 : vs 20 = .int .i64 ((sp : Int) - 1) := (hM.held 20 (hpre ⟨20, .data⟩ (by simp) rfl)).trans e20
        have e := e21
        clear e0 e1 e2 e3 e4 e5 e6 e7 e8 e9 e10 e11 e12 e13 e14 e15 e16 e17 e18 e19 e20 e21 e22 e23
        rw [v18, v20]
        go_simp
        exact hK.out _ _ ⟨updV vs 21 (.int .i64 gs), by simp [updV, v18, v20], hM.still 21 _ e.symm⟩
       ·
        simp only [List.getElem?_toArray, List.getElem?_cons_zero, List.getElem?_cons_succ, Option.some.injEq] at ho
        subst ho
        have v16 : vs 16 = .int .i64 (N - Wn) := (hM.held 16 (hpre ⟨16, .data⟩ (by simp) rfl)).trans e16
        have v21 : vs 21 = .int .i64 gs := (hM.held 21 (hpre ⟨21, .data⟩ (by simp) rfl)).trans e21
        have e := e22
        clear e0 e1 e2 e3 e4 e5 e6 e7 e8 e9 e10 e11 e12 e13 e14 e15 e16 e17 e18 e19 e20 e21 e22 e23
        rw [v16, v21]
        go_simp
        exact hK.out _ _ ⟨updV vs 22 (.int .i64 (N - Wn - gs)), by simp [updV, v16, v21], hM.still 22 _ e.symm⟩
       ·
        simp only [List.getElem?_toArray, List.getElem?_cons_zero, List.getElem?_cons_succ, Option.some.injEq] at ho
        subst ho
        have v22 : vs 22 = .int .i64 (N - Wn - gs) := (hM.held 22 (hpre ⟨22, .data⟩ (by simp) rfl)).trans e22
        have v15 : vs 15 = .int .i64 Wn := (hM.held 15 (hpre ⟨15, .chain⟩ (by simp) rfl)).trans e15
        have e := e23
        clear e0 e1 e2 e3 e4 e5 e6 e7 e8 e9 e10 e11 e12 e13 e14 e15 e16 e17 e18 e19 e20 e21 e22 e23
        rw [v22, v15]
        go_simp
        exact hK.out _ _ ⟨updV vs 23 (.int .i64 (N - Wn - gs)), by simp [updV, v22, v15], hM.still 23 _ e.symm⟩
      case fin =>
       rintro l a W10 hall ⟨vs10, rfl, hM⟩
       have HBW := hide hM.below
       have v23 : vs10 23 = .int .i64 (N - Wn - gs) := (hM.held 23 (by rw [getD_any (by rw [hM.size]; decide) false true]; exact hall 23 (by decide))).trans e23
       rw [v23]
       clear v23 hall hM
       have HGR5 := hide (grow_trans HGR4.out (grow_below HBW.out))
       have HO5 : Hid (IOwn W10 (T + 2) (.slice (some ⟨T + 2, 0, none⟩) n n) X) := HO4.out.below HBW.out
       have hs10 : W4.drew.heap.size ≤ W10.heap.size := HBW.out.size
       have hgC : C < W10.heap.size := Nat.lt_of_lt_of_le HC4.out hs10
       clear fT0 fT1 fT2 fT3 fT4 fC0 fC1 fC2 fC3 fC4 fa4 fb4 tw1 tw2 tw3 tw4 HSUM hs10
       by_cases hpos : N - Wn - gs ≤ 0
       ·
        have hst := HST2.out
        rw [if_neg (by omega)] at hst
        have HST3 := hide hst
        clear hst HST2
        go_wp2_with fail
        go_roundg (cells.length - (i + 1))
        case measure => omega
        case rel => exact ⟨i + 1, by go_num, by omega, by omega, HGR5.out, (show Aside _ from by rw [HST3.out]; exact HO5.out)⟩
       ·
        have hst := HST2.out
        rw [if_pos (by omega)] at hst
        have hrd := rd_sub (HO5.out.at_rd) rfl ac sp
        rw [Nat.zero_add] at hrd
        have hsh := impl_ShrShare (N - Wn - gs) (some ⟨T + 2, ac, none⟩) (n - ac) ((X.drop ac).take sp) W10 hrd ⟨by omega, fun x hx => by have := HWB.out x hx; omega, by rw [HWL.out]; omega⟩ (by rw [HWL.out]; omega)
        obtain ⟨s1, s2, s3⟩ := share_spec (total := N - Wn - gs) (ws := (X.drop ac).take sp) (by omega) (fun x hx => (HWB.out x hx).1) (by intro e; have := HWL.out; rw [e] at this; simp at this; omega)
        rw [HWL.out] at hsh s1
        generalize share (N - Wn - gs) ((X.drop ac).take sp) = sh at hst hsh s1 s2 s3
        have hsb : ∀ x ∈ sh, 0 ≤ x ∧ x ≤ 30 := fun x hx => ⟨s3 x hx, by have := sumI_ge s3 x hx; omega⟩
        have HST3 := hide hst
        have HSB := hide hsb
        have HSL := hide s1
        clear hst HST2 hrd s1 s2 s3 hsb
        go_wp2_with fail
        refine hsh.mono ?_
        rintro _ W11 ⟨v, rfl, hOs, hb11⟩
        obtain ⟨gq, cq, rfl, hq1, hq2, _, _⟩ := hOs.at (by rw [HSL.out]; omega)
        rw [HSL.out]
        rw [HSL.out] at hOs
        have HOS := hide hOs
        have HGR6 := hide (grow_trans HGR5.out (grow_below hb11))
        have HO6 : Hid (IOwn W11 (T + 2) (.slice (some ⟨T + 2, 0, none⟩) n n) X) := HO5.out.below hb11
        have hgq : T + 2 < gq := by omega
        clear hOs hb11 hsh HO5 HGR5
        go_wp2_with fail
        go_loopg [70] sp (fun g3 s70 wr => ∃ j : Nat, s70 = .int .i64 j ∧ j ≤ sp ∧ sp - j ≤ g3 ∧ Aside (W11.grownBy wr (some (T + 2))) ∧ Aside (IOwn wr (T + 2) (.slice (some ⟨T + 2, 0, none⟩) n n) (addAt X ac (sh.take j))))
        case atStart => exact ⟨0, rfl, Nat.zero_le _, by omega, grow_refl _ _, (show Aside _ from by show IOwn _ _ _ _; rw [List.take_zero]; exact HO6.out)⟩
        case round =>
         obtain ⟨j, rfl, hjs, hgj, HG7, HO7⟩ := hrel
         clear HO6
         by_cases hlt3 : j < sp
         ·
          have hltz3 : (j : Int) < (sp : Int) := by omega
          have c0 := HOS.out.cell (j := j) (by rw [HSL.out]; exact hlt3)
          have c1 : wr.cell? ⟨gq, j, none⟩ = some (.int .i64 (sh.getD j 0)) := by
           rw [World.cell?_of_block (HG7.out.block gq hq2 (fun e => by injection e with e; omega))]
           exact c0
          have hxl : (addAt X ac (sh.take j)).length = n := by rw [addAt_length]; exact HX.out.1
          have c2 := HO7.out.cell (j := ac + j) (by rw [hxl]; omega)
          have f2 := HO7.out.frozen (ac + j)
          have hget := addAt_get (sh.take j) X ac (ac + j) (by rw [HX.out.1]; simp; omega)
          rw [if_neg (by simp; omega), Int.add_zero] at hget
          have hxb := getD_in HX.out (ac + j)
          have hyb := int_at HSB.out j (by rw [HSL.out]; exact hlt3)
          have hsn := addAt_snoc (sh.take j) (sh.getD j 0) X ac
          rw [take_snoc (by rw [HSL.out]; exact hlt3), List.length_take, HSL.out, Nat.min_eq_left (by omega)] at hsn
          rw [← hget] at hxb
          generalize sh.getD j 0 = y at c1 hyb hsn
          generalize (addAt X ac (sh.take j)).getD (ac + j) 0 = x at c2 hxb hsn
          have t1 : IntKind.i64.wrap (x + y) = x + y := by rw [IntKind.wrap_i64]; omega
          have HSN := hide hsn
          clear c0 hxl hget hxb hyb hsn
          go_wp2_with fail
          go_roundg (sp - (j + 1))
          case measure => omega
          case rel => exact ⟨j + 1, by go_num, by omega, by omega, grow_trans HG7.out (grow_set _ rfl _), (show Aside _ from by rw [HSN.out]; exact HO7.out.store (ac + j) (x + y))⟩
         ·
          have hltz3 : ¬ (j : Int) < (sp : Int) := by omega
          have hO := HO7.out
          rw [List.take_of_length_le (by rw [HSL.out]; omega), ← HST3.out] at hO
          have HO8 := hide hO
          clear hO HO7
          go_wp2_with fail
          go_roundg (cells.length - (i + 1))
          case measure => omega
          case rel => exact ⟨i + 1, by go_num, by omega, by omega, grow_trans HGR6.out HG7.out, HO8.out⟩
     ·
      have heq1 : (cc.cols != (sp : Int)) = true := by simpa using heq
      have hst := HST.out
      unfold stepCol at hst
      rw [if_neg heq] at hst
      have HST2 := hide hst
      have HGR4 := hide (fun (o : Obj) => grow_trans HGR2.out (grow_below (balloc (brefl wr) o)))
      have HO4 : Hid (∀ o : Obj, IOwn (wr.alloc o) (T + 2) (.slice (some ⟨T + 2, 0, none⟩) n n) X) := fun o => HO2.out.below (balloc (brefl _) _)
      clear hst HST
      go_wp2_with fail
      go_roundg (cells.length - (i + 1))
      case measure => omega
      case rel => exact ⟨i + 1, by go_num, by omega, by omega, HGR4.out _, (show Aside _ from by rw [HST2.out]; exact HO4.out _)⟩
    ·
     have hltz2 : ¬ (i : Int) < (cells.length : Int) := by omega
     have hO := HO2.out
     rw [List.take_of_length_le (by omega), HSP.out] at hO
     have HO3 : Hid (IOwn wr (T + 2) (.slice (some ⟨T + 2, 0, none⟩) n n) (madeTo t.gap need cells n (k + 1))) := hO
     have t1 : IntKind.i64.wrap ((sp : Int) + 1) = ((k + 1 + 1 : Nat) : Int) := by rw [IntKind.wrap_i64]; have := HSP.out; omega
     clear hO HO2
     go_wp2_with fail
     go_roundg (4 - (k + 1))
     case measure => omega
     case rel => exact ⟨k + 1, by have := HSP.out; subst this; first | rfl | go_num, by omega, by omega, HGR2.out, HO3.out⟩
  ·
   have hltz : ¬ (sp : Int) ≤ 4 := by omega
   have hk4 : k = 4 := by omega
   subst hk4
   go_wp2_with fail
   go_ret
   refine ⟨_, rfl, ?_, KW.out wr HGR.out⟩
   rw [← madeTo_four]
   exact HO.out.base (by have := HTT.out; omega)
end Go.Proofs.YtpfagdmmhgcmnaaGreatDoor
