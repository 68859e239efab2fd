import Derived.Test.YtgdmcmicfoamlaaGreatDoorMixTl
import Derived.Test.YtgdmcmicfoamlaaGreatDoorMixHb
set_option linter.unusedVariables false
set_option linter.unusedSimpArgs false
set_option maxHeartbeats 20000000
set_option maxRecDepth 100000
namespace Go.Proofs.YtgdmcmicfoamlaaGreatDoor
open Go.RowKit
def Zo7 (F : Nat) (nd : ByteArray → Int) : Prop :=
 (∀ args w, (callFunc F args).run Tryz.prog w = .ok (.enter F args) w) ∧ ∀ (s : ByteArray) (W : World), s.size ≤ 1048576 → Zb9 W → Calls Tryz.prog F #[.string s] W fun e w' => e = .returned (.int .i64 (nd s)) ∧ Below W.heap.size W w'
def Qb (t : Tbl) (c : Zl) : ByteArray := ((t.rows.getD c.row.toNat default).cs.getD c.inn.toNat default).t
def Zaq (t : Tbl) (c : Zl) : Prop := (0 ≤ c.row ∧ c.row < t.rows.length) ∧ 0 ≤ c.inn ∧ c.inn < (t.rows.getD c.row.toNat default).cs.length
theorem Zhz {w : World} {A' : Option Addr} {t : Tbl} {c : Zl} (hr : Rd Zbp w A' t.rows) (h : Zaq t c) : ∃ (b o bx ox m cx r q : Nat), A' = some ⟨b, o, none⟩ ∧ c.row = r ∧ c.inn = q ∧ r < t.rows.length ∧ q < m ∧ w.cell? ⟨b, o + r * 2, none⟩ = some (.slice (some ⟨bx, ox, none⟩) m cx) ∧ w.cell? ⟨bx, ox + q * 11, none⟩ = some (.string (Qb t c)) ∧ (Qb t c).size ≤ 1048576 := by
 obtain ⟨⟨h1, h2⟩, h3, h4⟩ := h
 obtain ⟨r, hr0⟩ := Int.eq_ofNat_of_zero_le h1
 obtain ⟨q, hq0⟩ := Int.eq_ofNat_of_zero_le h3
 have hrl : r < t.rows.length := by omega
 obtain ⟨b, o, c0, c1, rfl, _, ⟨v, e, A, cc, rfl, _, hR⟩, k0, _⟩ := hr.at2 rfl (Zf _) r hrl
 have hrow : t.rows.getD c.row.toNat default = t.rows[r] := by rw [hr0, Int.toNat_natCast, List.getD_eq_getElem?_getD, List.getElem?_eq_getElem hrl]; rfl
 rw [hrow] at h4
 have hql : q < t.rows[r].cs.length := by omega
 simp only [List.cons.injEq, and_true] at e
 obtain ⟨rfl, _⟩ := e
 obtain ⟨bx, ox, d0, d1, d2, d3, d4, d5, d6, d7, d8, d9, d10, rfl, _, ⟨e2, hs⟩, l0, _⟩ := hR.at11 rfl (Zf _) q hql
 unfold Qv at e2
 simp only [List.cons.injEq] at e2
 have ht : Qb t c = t.rows[r].cs[q].t := by
  unfold Qb
  rw [hrow, hq0, Int.toNat_natCast, List.getD_eq_getElem?_getD, List.getElem?_eq_getElem hql]; rfl
 rw [ht]
 exact ⟨b, o, bx, ox, _, cc, r, q, rfl, hr0, hq0, hrl, hql, k0, by rw [l0, e2.1], hs⟩
def Zbr (gap : Int) (need : Zl → Int) (cells : List Zl) (n : Nat) : Nat → List Int
 | 0 => List.replicate n 0
 | k + 1 => Zda gap need (k + 1) cells (Zbr gap need cells n k)
theorem Zi2 (gap : Int) (need : Zl → Int) (cells : List Zl) (n : Nat) : Zbr gap need cells n 4 = made gap need cells n := rfl
theorem Zh3 {gap : Int} {need : Zl → Int} {cells : List Zl} {n : Nat} (hg : 0 ≤ gap) (hc : ∀ c ∈ cells, Zas n need c) : ∀ k, Zdr n (Zbr gap need cells n k)
 | 0 => ⟨by simp [Zbr], fun x hx => by rw [(List.mem_replicate.1 hx).2]; decide⟩
 | k + 1 => (Zbk (span := k + 1) hg (by omega) cells _ (Zh3 hg hc k) hc).1
theorem Zjx {gap : Int} {need : Zl → Int} {span : Nat} {cells : List Zl} {cols : List Int} {i : Nat} (h : i < cells.length) : Zda gap need span (cells.take (i + 1)) cols = Zbw gap need span (Zda gap need span (cells.take i) cols) cells[i] := by
 unfold Zda
 rw [List.take_succ_eq_append_getElem h, List.foldl_append]; rfl
theorem Zly (t : Tbl) (A : Option Addr) (c : Nat) (A' : Option Addr) (c' : Nat) (gr : Int) (n : Nat) (cells : List Zl) (GA : Option Addr) (gc : Nat) (F : Nat) (nd : ByteArray → Int) (w : World) (hw : Zb9 w) (hr : Rd Zbp w A' t.rows) (hG : Rd gcR w GA cells) (hF : Zo7 F nd)
 (hg : 0 ≤ t.gap ∧ t.gap ≤ 3) (hn : 1 ≤ n ∧ n ≤ 1000) (hcell : ∀ x ∈ cells, Zas n (fun c => nd (Qb t c)) x ∧ Zaq t x ∧ 0 ≤ nd (Qb t x)) (hcl : cells.length ≤ 1000) :
 Calls Tryz.prog 206 #[.agg #[.slice A t.cols.length c, .int .i64 t.head, .int .i64 t.foot, .slice A' t.rows.length c', .int .i64 t.gap], .agg #[.int .i64 gr, .int .i64 n, .slice GA cells.length gc], .func (.func F) #[] #[]] w fun e w' => ∃ v, e = .returned v ∧ Zn w' w.heap.size v (made t.gap (fun c => nd (Qb t c)) cells n) ∧ Below w.heap.size w w' := by
 have HW := Za hw
 have HR := Za hr
 have HG := Za hG
 have HF := Za hF
 have HC := Za hcell
 have eg := hF.1
 clear hw hr hG hF hcell
 obtain ⟨need, hneed⟩ : ∃ f : Zl → Int, f = fun c => nd (Qb t c) := ⟨_, rfl⟩
 rw [← hneed] at HC ⊢
 have HND := Za hneed
 clear hneed
 have hmk := Zde (P := Tryz.prog) (z := .int .i64 0) (k := 1) (bytes := 8) Yl Yu n (by omega) (by omega)
 go_enter Tryz.func206, Tryz.ntmps206
 go_wp2_with fail
 generalize hW3 : ((w.alloc _).alloc _).alloc _ = W3
 obtain ⟨T, hT⟩ : ∃ T, T = w.heap.size := ⟨_, rfl⟩
 have FW : Hid (Zh W3 T [.slice A t.cols.length c, .int .i64 t.head, .int .i64 t.foot, .slice A' t.rows.length c', .int .i64 t.gap] ∧ Zh W3 (T + 1) [.int .i64 gr, .int .i64 n, .slice GA cells.length gc] ∧ Zn W3 (T + 2) (.slice (some ⟨T + 2, 0, none⟩) n n) (List.replicate n 0) ∧ Below w.heap.size w W3 ∧ T + 2 < W3.heap.size) := by
  subst hW3; subst hT
  have e1 : (w.alloc (.cells #[.slice A t.cols.length c, .int .i64 t.head, .int .i64 t.foot, .slice A' t.rows.length c', .int .i64 t.gap] 26)).heap.size = w.heap.size + 1 := by simp
  have e2 : ((w.alloc (.cells #[.slice A t.cols.length c, .int .i64 t.head, .int .i64 t.foot, .slice A' t.rows.length c', .int .i64 t.gap] 26)).alloc (.cells #[.int .i64 gr, .int .i64 n, .slice GA cells.length gc] 39)).heap.size = w.heap.size + 1 + 1 := by simp
  have m1 := Zh.new w [.slice A t.cols.length c, .int .i64 t.head, .int .i64 t.foot, .slice A' t.rows.length c', .int .i64 t.gap] 26
  have m2 := Zh.new (w.alloc (.cells #[.slice A t.cols.length c, .int .i64 t.head, .int .i64 t.foot, .slice A' t.rows.length c', .int .i64 t.gap] 26)) [.int .i64 gr, .int .i64 n, .slice GA cells.length gc] 39
  have m3 := Zb5 ((w.alloc (.cells #[.slice A t.cols.length c, .int .i64 t.head, .int .i64 t.foot, .slice A' t.rows.length c', .int .i64 t.gap] 26)).alloc (.cells #[.int .i64 gr, .int .i64 n, .slice GA cells.length gc] 39)) (w.heap.size + 2) n (Nat.le_of_eq e2.symm) (by omega)
  rw [Nat.mul_one, e2] at m3
  rw [e1] at m2
  exact ⟨(m1.keep ((Zc (Zf _) _).block _ (by simp))).keep ((Zc (Zf _) _).block _ (by simp; omega)), m2.keep ((Zc (Zf _) _).block _ (by simp)), m3, Zc (Zc (Zc (Zf _) _) _) _, by simp⟩
 rw [← hT]
 have hT2 : T + 1 + 1 = T + 2 := rfl
 rw [hT2]
 have HTT := Za hT
 clear hW3 hT hT2 hmk
 have HIN := Za (fun k => Zh3 (gap := t.gap) hg.1 (fun x hx => (HC.out x hx).1) k : ∀ k, Zdr n (Zbr t.gap need cells n k))
 go_loopg [8] 4 (fun gg s8 wr => ∃ k : Nat, s8 = .int .i64 ((k + 1 : Nat) : Int) ∧ k ≤ 4 ∧ 4 - k ≤ gg ∧ Aside (W3.grownBy wr (some (T + 2))) ∧ Aside (Zn wr (T + 2) (.slice (some ⟨T + 2, 0, none⟩) n n) (Zbr t.gap need cells n k)))
 case atStart => exact ⟨0, rfl, by omega, by omega, Jk _ _, FW.out.2.2.1⟩
 obtain ⟨k, rfl, hk, hgg, HGR, HO⟩ := hrel
 obtain ⟨sp, hsp⟩ : ∃ sp, sp = k + 1 := ⟨_, rfl⟩
 rw [← hsp]
 have HSP := Za hsp
 have hkeepT := fun (W : World) (hg : W3.grownBy W (some (T + 2))) => FW.out.1.keep (Qm hg (by omega) (by have := FW.out.2.2.2.2; omega))
 have hkeepG := fun (W : World) (hg : W3.grownBy W (some (T + 2))) => FW.out.2.1.keep (Qm hg (by omega) (by have := FW.out.2.2.2.2; omega))
 have hkeepW := fun (W : World) (hg : W3.grownBy W (some (T + 2))) => FW.out.2.2.2.1.trans (Qg hg (by have := FW.out.2.2.2.1.size; omega) (fun q hq => by injection hq with hq; have := HTT.out; omega))
 have KT := Za hkeepT
 have KG := Za hkeepG
 have KW := Za hkeepW
 clear hkeepT hkeepG hkeepW
 by_cases hlt : k < 4
 ·
  have hltz : (sp : Int) ≤ 4 := by omega
  have hg1 := (KG.out wr HGR.out).1 1 _ rfl
  have hg2 := (KG.out wr HGR.out).1 2 _ rfl
  have hsp1 : 1 ≤ sp ∧ sp ≤ 4 := by omega
  clear hsp
  go_wp2_with fail
  go_loopg [25] cells.length (fun g2 s25 wr => ∃ i : Nat, s25 = .int .i64 i ∧ i ≤ cells.length ∧ cells.length - i ≤ g2 ∧ Aside (W3.grownBy wr (some (T + 2))) ∧ Aside (Zn wr (T + 2) (.slice (some ⟨T + 2, 0, none⟩) n n) (Zda t.gap need sp (cells.take i) (Zbr t.gap need cells n k))))
  case atStart => exact ⟨0, rfl, Nat.zero_le _, by omega, HGR.out, (show Aside _ from by show Zn _ _ _ _; rw [List.take_zero]; exact HO.out)⟩
  obtain ⟨i, rfl, hil, hg2, HGR2, HO2⟩ := hrel
  clear HGR HO hg1
  by_cases hlt2 : i < cells.length
  ·
   have hltz2 : (i : Int) < (cells.length : Int) := by omega
   obtain ⟨gb, go, x0, x1, x2, x3, x4, rfl, _, ⟨ex, hsm⟩, k0, k1, k2, k3, k4⟩ := HG.out.at5 rfl (KW.out wr HGR2.out) i hlt2
   obtain ⟨hci, hca, hnn⟩ := HC.out cells[i] (List.getElem_mem hlt2)
   have hst := Zjx (gap := t.gap) (need := need) (span := sp) (cols := Zbr t.gap need cells n k) hlt2
   have hci2 := (Zbk (span := sp) hg.1 hsp1.1 (cells.take i) _ (HIN.out k) (fun x hx => (HC.out x (List.mem_of_mem_take hx)).1)).1
   generalize Zda t.gap need sp (cells.take i) (Zbr t.gap need cells n k) = X at HO2 hst hci2
   generalize cells[i] = cc at ex hci hca hnn hst
   have q : [x0, x1, x2, x3, x4] = [.int .i64 cc.row, .int .i64 cc.col, .int .i64 cc.rows, .int .i64 cc.cols, .int .i64 cc.inn] := ex
   simp only [List.cons.injEq, and_true] at q
   obtain ⟨rfl, rfl, rfl, rfl, rfl⟩ := q
   obtain ⟨a1, a2, a3, a4, a5⟩ := hci
   obtain ⟨rb, ro, bx, ox, mx, cx, r, tq, hAe, er, eq2, hrl, hql, fa, fb, htx⟩ := Zhz (HR.out.below (KW.out wr HGR2.out)) hca
   subst hAe
   obtain ⟨tx, htxe⟩ : ∃ tx, Qb t cc = tx := ⟨_, rfl⟩
   rw [htxe] at fb htx
   have hnd : need cc = nd tx := by rw [HND.out]; show nd (Qb t cc) = nd tx; rw [htxe]
   obtain ⟨ac, ha⟩ := Int.eq_ofNat_of_zero_le a1
   rw [er] at k0
   rw [ha] at k1
   rw [eq2] at k4
   have hrz : (r : Int) < (t.rows.length : Int) := by omega
   have hqz : (tq : Int) < (mx : Int) := by omega
   have HTX := Za htxe
   have HND2 := Za hnd
   have HST := Za hst
   have HCA := Za hca
   have HNN := Za hnn
   clear htxe hnd
   have HX := Za hci2
   clear hst hca hnn hci2 ex hsm
   by_cases heq : cc.cols = (sp : Int)
   ·
    have heq1 : ((sp : Int) != (sp : Int)) = false := by simp
    rw [heq] at k3
    have hap : ac + sp ≤ n := by omega
    obtain ⟨ae, hae⟩ : ∃ ae, ae = ac + sp := ⟨_, rfl⟩
    have t1 : IntKind.i64.wrap ((ac : Int) + (sp : Int)) = (ae : Int) := by rw [IntKind.wrap_i64]; omega
    have hae1 : ae ≤ n := by omega
    have hae2 : ac ≤ ae := by omega
    have hae3 : (ac : Int) ≤ (ae : Int) := by omega
    have hae4 : (ae : Int) ≤ (n : Int) := by omega
    have hna : ¬ n = ac := by omega
    have HAE := Za hae
    clear hae
    go_upto_region 10 with fail
    have hsa : ae - ac = sp := by have := HAE.out; omega
    rw [hsa]
    obtain ⟨C, hC⟩ : ∃ C, C = wr.heap.size := ⟨_, rfl⟩
    rw [← hC]
    generalize hW4 : wr.alloc _ = W4
    have hb4 : Below wr.heap.size wr W4.drew := Zt (by rw [← hW4]; exact Zc (Zf _) _)
    have fC : Zh W4.drew C [.int .i64 r, .int .i64 ac, .int .i64 cc.rows, .int .i64 sp, .int .i64 tq] := by
     rw [← hW4, hC]; exact (Zh.new wr _ _).keep ((Zt (Zf _)).block _ (by simp))
    have fT := (KT.out wr HGR2.out).keep (hb4.block T (by have := HGR2.out.size; have := FW.out.2.2.2.2; omega))
    have HO4 : Hid (Zn W4.drew (T + 2) (.slice (some ⟨T + 2, 0, none⟩) n n) X) := HO2.out.below hb4
    have HGR4 := Za (Zk HGR2.out (Qd hb4))
    have fa4 := Zo hb4 fa
    have fb4 := Zo hb4 fb
    have KWB := Za (step (KW.out wr HGR2.out) hb4)
    have fT0 := fT.1 0 _ rfl
    have fT1 := fT.1 1 _ rfl
    have fT2 := fT.1 2 _ rfl
    have fT3 := fT.1 3 _ rfl
    have fT4 := fT.1 4 _ rfl
    have fC0 := fC.1 0 _ rfl
    have fC1 := fC.1 1 _ rfl
    have fC2 := fC.1 2 _ rfl
    have fC3 := fC.1 3 _ rfl
    have fC4 := fC.1 4 _ rfl
    have hC4 : C < W4.drew.heap.size := by rw [← hW4, hC]; simp
    have HC4 := Za hC4
    have hgT : T + 2 < C := by have := HGR2.out.size; have := FW.out.2.2.2.2; omega
    have hwn := Zfo HX.out ac sp
    have hwl : ((X.drop ac).take sp).length = sp := Zg0 HX.out.1 (by omega)
    have hwb : ∀ x ∈ (X.drop ac).take sp, 0 ≤ x ∧ x ≤ 30 := fun x hx => HX.out.2 x (List.mem_of_mem_drop (List.mem_of_mem_take hx))
    have hws : Yk X ac sp ≤ 30 * (sp : Int) := by
     have := Zd4 (l := (X.drop ac).take sp) (m := 30) (fun x hx => (hwb x hx).2)
     rw [hwl] at this
     exact this
    have HRW := Za (Zkj (HO4.out.at_rd) rfl ac sp)
    have HSUM : Hid (∀ W, Below W4.drew.heap.size W4.drew W → Calls Tryz.prog 90 #[.slice (some ⟨T + 2, ac, none⟩) sp (n - ac)] W fun e w' => e = .returned (.int .i64 (Yk X ac sp)) ∧ w' = W) := fun W hb => by
     have h1 := HRW.out.below hb
     rw [Nat.zero_add] at h1
     have h2 := Zbm (some ⟨T + 2, ac, none⟩) (n - ac) ((X.drop ac).take sp) W h1 (fun x hx => by have := hwb x hx; omega) (by rw [hwl]; omega)
     rw [hwl] at h2
     exact h2
    have HWL := Za hwl
    have HWB := Za hwb
    have hst := HST.out
    unfold Zbw at hst
    rw [if_pos heq, ha, Int.toNat_natCast, HND2.out] at hst
    have HNZ : Hid (0 ≤ nd tx ∧ nd tx ≤ 30) := by
     have h1 := HNN.out
     have h2 := a5
     rw [HND2.out] at h2
     have h3 : nd tx = need cc := HND2.out.symm
     refine ⟨?_, h2⟩
     rw [h3]
     have := h1
     rw [HND.out]
     exact this
    have hnz := HNZ.out
    obtain ⟨N, hN⟩ : ∃ N, nd tx = N := ⟨_, rfl⟩
    obtain ⟨Wn, hWn⟩ : ∃ Wn, Yk X ac sp = Wn := ⟨_, rfl⟩
    rw [hN] at hst hnz
    rw [hWn] at hst hwn hws HSUM
    obtain ⟨gs, hgs⟩ : ∃ gs, t.gap * ((sp : Int) - 1) = gs := ⟨_, rfl⟩
    have hgs0 : 0 ≤ gs ∧ gs ≤ 9 := by
     rw [← hgs]
     refine ⟨Int.mul_nonneg hg.1 (by omega), ?_⟩
     have h1 : t.gap * ((sp : Int) - 1) ≤ 3 * ((sp : Int) - 1) := Int.mul_le_mul_of_nonneg_right hg.2 (by omega)
     omega
    rw [hgs] at hst
    have tw1 := IntWalk.i64_in (N - Wn) (by omega)
    have tw2 := IntWalk.i64_in ((sp : Int) - 1) (by omega)
    have tw3 : IntKind.i64.wrap (t.gap * ((sp : Int) - 1)) = gs := by rw [hgs, IntKind.wrap_i64]; omega
    have tw4 := IntWalk.i64_in (N - Wn - gs) (by omega)
    have HNN2 := Za hN
    have HST2 := Za hst
    have HGS := Za hgs
    have HCC := Za hC
    clear hC hst HST hN hWn hgs hwl hwb fa fb fC fT hW4 hb4 HRW HNZ k0 k1 k2 k3 k4 a5
    obtain ⟨vals, hvals⟩ : ∃ f : Nat → Value, f = (fun j => match j with | 0 => .func (Fn.func F) #[] #[] | 1 => .pointer (some ⟨T, 3, none⟩) | 2 => .slice (some ⟨rb, ro, none⟩) t.rows.length c' | 3 => .pointer (some ⟨C, 0, none⟩) | 4 => .int .i64 r | 5 => .pointer (some ⟨rb, ro + r * 2, none⟩) | 6 => .pointer (some ⟨rb, ro + r * 2, none⟩) | 7 => .slice (some ⟨bx, ox, none⟩) mx cx | 8 => .pointer (some ⟨C, 4, none⟩) | 9 => .int .i64 tq | 10 => .pointer (some ⟨bx, ox + tq * 11, none⟩) | 11 => .pointer (some ⟨bx, ox + tq * 11, none⟩) | 12 => .string tx | 13 => .int .i64 N | 14 => .slice (some ⟨T + 2, ac, none⟩) sp (n - ac) | 15 => .int .i64 Wn | 16 => .int .i64 (N - Wn) | 17 => .pointer (some ⟨T, 4, none⟩) | 18 => .int .i64 t.gap | 19 => .int .i64 ↑sp | 20 => .int .i64 ((sp : Int) - 1) | 21 => .int .i64 gs | 22 => .int .i64 (N - Wn - gs) | 23 => .int .i64 (N - Wn - gs) | _ => undef) := ⟨_, rfl⟩
    have e0 : vals 0 = .func (Fn.func F) #[] #[] := congrFun hvals 0
    have e1 : vals 1 = .pointer (some ⟨T, 3, none⟩) := congrFun hvals 1
    have e2 : vals 2 = .slice (some ⟨rb, ro, none⟩) t.rows.length c' := congrFun hvals 2
    have e3 : vals 3 = .pointer (some ⟨C, 0, none⟩) := congrFun hvals 3
    have e4 : vals 4 = .int .i64 r := congrFun hvals 4
    have e5 : vals 5 = .pointer (some ⟨rb, ro + r * 2, none⟩) := congrFun hvals 5
    have e6 : vals 6 = .pointer (some ⟨rb, ro + r * 2, none⟩) := congrFun hvals 6
    have e7 : vals 7 = .slice (some ⟨bx, ox, none⟩) mx cx := congrFun hvals 7
    have e8 : vals 8 = .pointer (some ⟨C, 4, none⟩) := congrFun hvals 8
    have e9 : vals 9 = .int .i64 tq := congrFun hvals 9
    have e10 : vals 10 = .pointer (some ⟨bx, ox + tq * 11, none⟩) := congrFun hvals 10
    have e11 : vals 11 = .pointer (some ⟨bx, ox + tq * 11, none⟩) := congrFun hvals 11
    have e12 : vals 12 = .string tx := congrFun hvals 12
    have e13 : vals 13 = .int .i64 N := congrFun hvals 13
    have e14 : vals 14 = .slice (some ⟨T + 2, ac, none⟩) sp (n - ac) := congrFun hvals 14
    have e15 : vals 15 = .int .i64 Wn := congrFun hvals 15
    have e16 : vals 16 = .int .i64 (N - Wn) := congrFun hvals 16
    have e17 : vals 17 = .pointer (some ⟨T, 4, none⟩) := congrFun hvals 17
    have e18 : vals 18 = .int .i64 t.gap := congrFun hvals 18
    have e19 : vals 19 = .int .i64 ↑sp := congrFun hvals 19
    have e20 : vals 20 = .int .i64 ((sp : Int) - 1) := congrFun hvals 20
    have e21 : vals 21 = .int .i64 gs := congrFun hvals 21
    have e22 : vals 22 = .int .i64 (N - Wn - gs) := congrFun hvals 22
    have e23 : vals 23 = .int .i64 (N - Wn - gs) := congrFun hvals 23
    clear hvals
    refine Qe (fun l a W => ∃ vs : Nat → Value, a = ⟨List.toArray (.agg #[.slice A t.cols.length c, .int .i64 t.head, .int .i64 t.foot, .slice (some ⟨rb, ro, none⟩) t.rows.length c', .int .i64 t.gap] :: .agg #[.int .i64 gr, .int .i64 ↑n, .slice (some ⟨gb, go, none⟩) cells.length gc] :: .func (Fn.func F) #[] #[] :: .pointer (some ⟨T, 0, none⟩) :: .pointer (some ⟨T + 1, 0, none⟩) :: Zb :: .slice none 0 0 :: .slice (some ⟨T + 2, 0, none⟩) n n :: .int .i64 ↑sp :: Zb :: .pointer (some ⟨C, 0, none⟩) :: .slice (some ⟨T + 2, ac, none⟩) sp (n - ac) :: vs 23 :: u13 :: u14 :: .pointer (some ⟨T + 1, 1, none⟩) :: .int .i64 ↑n :: .slice (some ⟨T + 2, 0, none⟩) n n :: .int .i64 ↑sp :: .bool true :: u20 :: u21 :: .pointer (some ⟨T + 1, 2, none⟩) :: .slice (some ⟨gb, go, none⟩) cells.length gc :: .int .i64 ↑cells.length :: .int .i64 ↑i :: .bool true :: .pointer (some ⟨gb, go + i * 5, none⟩) :: .agg #[.int .i64 ↑r, .int .i64 ↑ac, .int .i64 cc.rows, .int .i64 ↑sp, .int .i64 ↑tq] :: .pointer (some ⟨C, 3, none⟩) :: .int .i64 ↑sp :: .int .i64 ↑sp :: .bool false :: .slice (some ⟨T + 2, 0, none⟩) n n :: .pointer (some ⟨C, 1, none⟩) :: .int .i64 ↑ac :: .pointer (some ⟨C, 1, none⟩) :: .int .i64 ↑ac :: .int .i64 ↑sp :: .int .i64 ↑ae :: .slice (some ⟨T + 2, ac, none⟩) sp (n - ac) :: vs 0 :: vs 1 :: vs 2 :: vs 3 :: vs 4 :: vs 5 :: vs 6 :: vs 7 :: vs 8 :: vs 9 :: vs 10 :: vs 11 :: vs 12 :: vs 13 :: vs 14 :: vs 15 :: vs 16 :: vs 17 :: vs 18 :: vs 19 :: vs 20 :: vs 21 :: vs 22 :: u64 :: u65 :: u66 :: u67 :: u68 :: u69 :: u70 :: u71 :: u72 :: u73 :: u74 :: u75 :: u76 :: u77 :: u78 :: u79 :: u80 :: u81 :: u82 :: u83 :: Zb :: []), []⟩ ∧ Zhv vals 24 (W4.drew) l vs W) (by kernel_rfl) ?top ?start ?step ?fin
    case top => exact Zae (by kernel_rfl)
    case start => exact ⟨(fun j => match j with | 0 => u41 | 1 => u42 | 2 => u43 | 3 => u44 | 4 => u45 | 5 => u46 | 6 => u47 | 7 => u48 | 8 => u49 | 9 => u50 | 10 => u51 | 11 => u52 | 12 => u53 | 13 => u54 | 14 => u55 | 15 => u56 | 16 => u57 | 17 => u58 | 18 => u59 | 19 => u60 | 20 => u61 | 21 => u62 | 22 => u63 | 23 => u12 | _ => undef), rfl, Zhv.start⟩
    case step =>
     rintro l a W i o ho hl hpre hsz ⟨vs, rfl, hM⟩ K hK
     have hi : i < 24 := (Array.getElem?_eq_some_iff.1 ho).1
     obtain rfl|rfl|rfl|rfl|rfl|rfl|rfl|rfl|rfl|rfl|rfl|rfl|rfl|rfl|rfl|rfl|rfl|rfl|rfl|rfl|rfl|rfl|rfl|rfl := Zwd hi
     all_goals
      simp only [List.getElem?_toArray, List.getElem?_cons_zero, List.getElem?_cons_succ, Option.some.injEq] at ho
      subst ho
      have hPR := Zce hpre
     · have e := e0
       clear e0 e1 e2 e3 e4 e5 e6 e7 e8 e9 e10 e11 e12 e13 e14 e15 e16 e17 e18 e19 e20 e21 e22 e23
       go_simp
       exact hK.out _ _ ⟨Zd vs 0 (.func (Fn.func F) #[] #[]), rfl, hM.still 0 _ e.symm⟩
     · have e := e1
       clear e0 e1 e2 e3 e4 e5 e6 e7 e8 e9 e10 e11 e12 e13 e14 e15 e16 e17 e18 e19 e20 e21 e22 e23
       go_simp
       exact hK.out _ _ ⟨Zd vs 1 (.pointer (some ⟨T, 3, none⟩)), rfl, hM.still 1 _ e.symm⟩
     · have v1 : vs 1 = .pointer (some ⟨T, 3, none⟩) := (hM.held 1 (hPR 1 rfl)).trans e1
       have e := e2
       clear e0 e1 e2 e3 e4 e5 e6 e7 e8 e9 e10 e11 e12 e13 e14 e15 e16 e17 e18 e19 e20 e21 e22 e23
       have x0 := Zg hM.below fT3
       rw [v1]
       go_simp
       exact hK.out _ _ ⟨Zd vs 2 (.slice (some ⟨rb, ro, none⟩) t.rows.length c'), by simp [Zd, v1], hM.still 2 _ e.symm⟩
     · have e := e3
       clear e0 e1 e2 e3 e4 e5 e6 e7 e8 e9 e10 e11 e12 e13 e14 e15 e16 e17 e18 e19 e20 e21 e22 e23
       go_simp
       exact hK.out _ _ ⟨Zd vs 3 (.pointer (some ⟨C, 0, none⟩)), rfl, hM.still 3 _ e.symm⟩
     · have v3 : vs 3 = .pointer (some ⟨C, 0, none⟩) := (hM.held 3 (hPR 3 rfl)).trans e3
       have e := e4
       clear e0 e1 e2 e3 e4 e5 e6 e7 e8 e9 e10 e11 e12 e13 e14 e15 e16 e17 e18 e19 e20 e21 e22 e23
       have x0 := Zg hM.below fC0
       rw [v3]
       go_simp
       exact hK.out _ _ ⟨Zd vs 4 (.int .i64 r), by simp [Zd, v3], hM.still 4 _ e.symm⟩
     · have v2 : vs 2 = .slice (some ⟨rb, ro, none⟩) t.rows.length c' := (hM.held 2 (hPR 2 rfl)).trans e2
       have v4 : vs 4 = .int .i64 r := (hM.held 4 (hPR 4 rfl)).trans e4
       have e := e5
       clear e0 e1 e2 e3 e4 e5 e6 e7 e8 e9 e10 e11 e12 e13 e14 e15 e16 e17 e18 e19 e20 e21 e22 e23
       rw [v2, v4]
       go_simp
       exact hK.out _ _ ⟨Zd vs 5 (.pointer (some ⟨rb, ro + r * 2, none⟩)), by simp [Zd, v2, v4], hM.still 5 _ e.symm⟩
     · have v5 : vs 5 = .pointer (some ⟨rb, ro + r * 2, none⟩) := (hM.held 5 (hPR 5 rfl)).trans e5
       have e := e6
       clear e0 e1 e2 e3 e4 e5 e6 e7 e8 e9 e10 e11 e12 e13 e14 e15 e16 e17 e18 e19 e20 e21 e22 e23
       rw [v5]
       go_simp
       exact hK.out _ _ ⟨Zd vs 6 (.pointer (some ⟨rb, ro + r * 2, none⟩)), by simp [Zd, v5], hM.still 6 _ e.symm⟩
     · have v6 : vs 6 = .pointer (some ⟨rb, ro + r * 2, none⟩) := (hM.held 6 (hPR 6 rfl)).trans e6
       have e := e7
       clear e0 e1 e2 e3 e4 e5 e6 e7 e8 e9 e10 e11 e12 e13 e14 e15 e16 e17 e18 e19 e20 e21 e22 e23
       have x0 := Zg hM.below fa4
       rw [v6]
       go_simp
       exact hK.out _ _ ⟨Zd vs 7 (.slice (some ⟨bx, ox, none⟩) mx cx), by simp [Zd, v6], hM.still 7 _ e.symm⟩
     · have e := e8
       clear e0 e1 e2 e3 e4 e5 e6 e7 e8 e9 e10 e11 e12 e13 e14 e15 e16 e17 e18 e19 e20 e21 e22 e23
       go_simp
       exact hK.out _ _ ⟨Zd vs 8 (.pointer (some ⟨C, 4, none⟩)), rfl, hM.still 8 _ e.symm⟩
     · have v8 : vs 8 = .pointer (some ⟨C, 4, none⟩) := (hM.held 8 (hPR 8 rfl)).trans e8
       have e := e9
       clear e0 e1 e2 e3 e4 e5 e6 e7 e8 e9 e10 e11 e12 e13 e14 e15 e16 e17 e18 e19 e20 e21 e22 e23
       have x0 := Zg hM.below fC4
       rw [v8]
       go_simp
       exact hK.out _ _ ⟨Zd vs 9 (.int .i64 tq), by simp [Zd, v8], hM.still 9 _ e.symm⟩
     · have v7 : vs 7 = .slice (some ⟨bx, ox, none⟩) mx cx := (hM.held 7 (hPR 7 rfl)).trans e7
       have v9 : vs 9 = .int .i64 tq := (hM.held 9 (hPR 9 rfl)).trans e9
       have e := e10
       clear e0 e1 e2 e3 e4 e5 e6 e7 e8 e9 e10 e11 e12 e13 e14 e15 e16 e17 e18 e19 e20 e21 e22 e23
       rw [v7, v9]
       go_simp
       exact hK.out _ _ ⟨Zd vs 10 (.pointer (some ⟨bx, ox + tq * 11, none⟩)), by simp [Zd, v7, v9], hM.still 10 _ e.symm⟩
     · have v10 : vs 10 = .pointer (some ⟨bx, ox + tq * 11, none⟩) := (hM.held 10 (hPR 10 rfl)).trans e10
       have e := e11
       clear e0 e1 e2 e3 e4 e5 e6 e7 e8 e9 e10 e11 e12 e13 e14 e15 e16 e17 e18 e19 e20 e21 e22 e23
       rw [v10]
       go_simp
       exact hK.out _ _ ⟨Zd vs 11 (.pointer (some ⟨bx, ox + tq * 11, none⟩)), by simp [Zd, v10], hM.still 11 _ e.symm⟩
     · have v11 : vs 11 = .pointer (some ⟨bx, ox + tq * 11, none⟩) := (hM.held 11 (hPR 11 rfl)).trans e11
       have e := e12
       clear e0 e1 e2 e3 e4 e5 e6 e7 e8 e9 e10 e11 e12 e13 e14 e15 e16 e17 e18 e19 e20 e21 e22 e23
       have x0 := Zg hM.below fb4
       rw [v11]
       go_simp
       exact hK.out _ _ ⟨Zd vs 12 (.string tx), by simp [Zd, v11], hM.still 12 _ e.symm⟩
     ·
      have v0 : vs 0 = .func (Fn.func F) #[] #[] := (hM.held 0 (hPR 0 rfl)).trans e0
      have v12 : vs 12 = .string tx := (hM.held 12 (hPR 12 rfl)).trans e12
      have e := e13
      clear e0 e1 e2 e3 e4 e5 e6 e7 e8 e9 e10 e11 e12 e13 e14 e15 e16 e17 e18 e19 e20 e21 e22 e23
      have hI := HF.out.2 tx W htx (HW.out.below (step KWB.out hM.below))
      rw [HNN2.out] at hI
      rw [v0, v12]
      go_simp
      refine (hI).mono ?_
      rintro e5 W5 ⟨rfl, hb5⟩
      exact hK.out _ _ ⟨Zd vs 13 (.int .i64 N), by simp [Zd, v0, v12], hM.next 13 _ e.symm hb5⟩
     · have e := e14
       clear e0 e1 e2 e3 e4 e5 e6 e7 e8 e9 e10 e11 e12 e13 e14 e15 e16 e17 e18 e19 e20 e21 e22 e23
       go_simp
       exact hK.out _ _ ⟨Zd vs 14 (.slice (some ⟨T + 2, ac, none⟩) sp (n - ac)), rfl, hM.still 14 _ e.symm⟩
     ·
      have v14 : vs 14 = .slice (some ⟨T + 2, ac, none⟩) sp (n - ac) := (hM.held 14 (hPR 14 rfl)).trans e14
      have v13 : vs 13 = .int .i64 N := (hM.held 13 (hPR 13 rfl)).trans e13
      have e := e15
      clear e0 e1 e2 e3 e4 e5 e6 e7 e8 e9 e10 e11 e12 e13 e14 e15 e16 e17 e18 e19 e20 e21 e22 e23
      have hI := HSUM.out W hM.below
      rw [v14, v13]
      go_simp
      refine (hI).mono ?_
      rintro e5 W5 ⟨rfl, hw5⟩
      exact hK.out _ _ ⟨Zd vs 15 (.int .i64 Wn), by simp [Zd, v14, v13], hM.next 15 _ e.symm (by rw [hw5]; exact Zf _)⟩
     · have v13 : vs 13 = .int .i64 N := (hM.held 13 (hPR 13 rfl)).trans e13
       have v15 : vs 15 = .int .i64 Wn := (hM.held 15 (hPR 15 rfl)).trans e15
       have e := e16
       clear e0 e1 e2 e3 e4 e5 e6 e7 e8 e9 e10 e11 e12 e13 e14 e15 e16 e17 e18 e19 e20 e21 e22 e23
       rw [v13, v15]
       go_simp
       exact hK.out _ _ ⟨Zd vs 16 (.int .i64 (N - Wn)), by simp [Zd, v13, v15], hM.still 16 _ e.symm⟩
     · have e := e17
       clear e0 e1 e2 e3 e4 e5 e6 e7 e8 e9 e10 e11 e12 e13 e14 e15 e16 e17 e18 e19 e20 e21 e22 e23
       go_simp
       exact hK.out _ _ ⟨Zd vs 17 (.pointer (some ⟨T, 4, none⟩)), rfl, hM.still 17 _ e.symm⟩
     · have v17 : vs 17 = .pointer (some ⟨T, 4, none⟩) := (hM.held 17 (hPR 17 rfl)).trans e17
       have e := e18
       clear e0 e1 e2 e3 e4 e5 e6 e7 e8 e9 e10 e11 e12 e13 e14 e15 e16 e17 e18 e19 e20 e21 e22 e23
       have x0 := Zg hM.below fT4
       rw [v17]
       go_simp
       exact hK.out _ _ ⟨Zd vs 18 (.int .i64 t.gap), by simp [Zd, v17], hM.still 18 _ e.symm⟩
     · have e := e19
       clear e0 e1 e2 e3 e4 e5 e6 e7 e8 e9 e10 e11 e12 e13 e14 e15 e16 e17 e18 e19 e20 e21 e22 e23
       go_simp
       exact hK.out _ _ ⟨Zd vs 19 (.int .i64 ↑sp), rfl, hM.still 19 _ e.symm⟩
     · have v19 : vs 19 = .int .i64 ↑sp := (hM.held 19 (hPR 19 rfl)).trans e19
       have e := e20
       clear e0 e1 e2 e3 e4 e5 e6 e7 e8 e9 e10 e11 e12 e13 e14 e15 e16 e17 e18 e19 e20 e21 e22 e23
       rw [v19]
       go_simp
       exact hK.out _ _ ⟨Zd vs 20 (.int .i64 ((sp : Int) - 1)), by simp [Zd, v19], hM.still 20 _ e.symm⟩
     · have v18 : vs 18 = .int .i64 t.gap := (hM.held 18 (hPR 18 rfl)).trans e18
       have v20 : vs 20 = .int .i64 ((sp : Int) - 1) := (hM.held 20 (hPR 20 rfl)).trans e20
       have e := e21
       clear e0 e1 e2 e3 e4 e5 e6 e7 e8 e9 e10 e11 e12 e13 e14 e15 e16 e17 e18 e19 e20 e21 e22 e23
       rw [v18, v20]
       go_simp
       exact hK.out _ _ ⟨Zd vs 21 (.int .i64 gs), by simp [Zd, v18, v20], hM.still 21 _ e.symm⟩
     · have v16 : vs 16 = .int .i64 (N - Wn) := (hM.held 16 (hPR 16 rfl)).trans e16
       have v21 : vs 21 = .int .i64 gs := (hM.held 21 (hPR 21 rfl)).trans e21
       have e := e22
       clear e0 e1 e2 e3 e4 e5 e6 e7 e8 e9 e10 e11 e12 e13 e14 e15 e16 e17 e18 e19 e20 e21 e22 e23
       rw [v16, v21]
       go_simp
       exact hK.out _ _ ⟨Zd vs 22 (.int .i64 (N - Wn - gs)), by simp [Zd, v16, v21], hM.still 22 _ e.symm⟩
     have v22 : vs 22 = .int .i64 (N - Wn - gs) := (hM.held 22 (hPR 22 rfl)).trans e22
     have v15 : vs 15 = .int .i64 Wn := (hM.held 15 (hPR 15 rfl)).trans e15
     have e := e23
     clear e0 e1 e2 e3 e4 e5 e6 e7 e8 e9 e10 e11 e12 e13 e14 e15 e16 e17 e18 e19 e20 e21 e22 e23
     rw [v22, v15]
     go_simp
     exact hK.out _ _ ⟨Zd vs 23 (.int .i64 (N - Wn - gs)), by simp [Zd, v22, v15], hM.still 23 _ e.symm⟩
    rintro l a W10 hall ⟨vs10, rfl, hM⟩
    have HBW := Za hM.below
    have v23 : vs10 23 = .int .i64 (N - Wn - gs) := (hM.held 23 (by rw [Qa (by rw [hM.size]; decide) false true]; exact hall 23 (by decide))).trans e23
    rw [v23]
    clear v23 hall hM
    have HGR5 := Za (Zk HGR4.out (Qd HBW.out))
    have HO5 : Hid (Zn W10 (T + 2) (.slice (some ⟨T + 2, 0, none⟩) n n) X) := HO4.out.below HBW.out
    have hs10 : W4.drew.heap.size ≤ W10.heap.size := HBW.out.size
    have hgC : C < W10.heap.size := Nat.lt_of_lt_of_le HC4.out hs10
    clear fT0 fT1 fT2 fT3 fT4 fC0 fC1 fC2 fC3 fC4 fa4 fb4 tw1 tw2 tw3 tw4 HSUM hs10
    by_cases hpos : N - Wn - gs ≤ 0
    ·
     have hst := HST2.out
     rw [if_neg (by omega)] at hst
     have HST3 := Za hst
     clear hst HST2
     go_wp2_with fail
     go_roundg (cells.length - (i + 1))
     case measure => omega
     case rel => exact ⟨i + 1, by go_num, by omega, by omega, HGR5.out, (show Aside _ from by rw [HST3.out]; exact HO5.out)⟩
    have hst := HST2.out
    rw [if_pos (by omega)] at hst
    have hrd := Zkj (HO5.out.at_rd) rfl ac sp
    rw [Nat.zero_add] at hrd
    have hsh := Zcw (N - Wn - gs) (some ⟨T + 2, ac, none⟩) (n - ac) ((X.drop ac).take sp) W10 hrd ⟨by omega, fun x hx => by have := HWB.out x hx; omega, by rw [HWL.out]; omega⟩ (by rw [HWL.out]; omega)
    obtain ⟨s1, s2, s3⟩ := Zaz (total := N - Wn - gs) (ws := (X.drop ac).take sp) (by omega) (fun x hx => (HWB.out x hx).1) (by intro e; have := HWL.out; rw [e] at this; simp at this; omega)
    rw [HWL.out] at hsh s1
    generalize Ye (N - Wn - gs) ((X.drop ac).take sp) = sh at hst hsh s1 s2 s3
    have hsb : ∀ x ∈ sh, 0 ≤ x ∧ x ≤ 30 := fun x hx => ⟨s3 x hx, by have := Zby s3 x hx; omega⟩
    have HST3 := Za hst
    have HSB := Za hsb
    have HSL := Za s1
    clear hst HST2 hrd s1 s2 s3 hsb
    go_wp2_with fail
    refine hsh.mono ?_
    rintro _ W11 ⟨v, rfl, hOs, hb11⟩
    obtain ⟨gq, cq, rfl, hq1, hq2, _, _⟩ := hOs.at (by rw [HSL.out]; omega)
    rw [HSL.out]
    rw [HSL.out] at hOs
    have HOS := Za hOs
    have HGR6 := Za (Zk HGR5.out (Qd hb11))
    have HO6 : Hid (Zn W11 (T + 2) (.slice (some ⟨T + 2, 0, none⟩) n n) X) := HO5.out.below hb11
    have hgq : T + 2 < gq := by omega
    clear hOs hb11 hsh HO5 HGR5
    go_wp2_with fail
    go_loopg [70] sp (fun g3 s70 wr => ∃ j : Nat, s70 = .int .i64 j ∧ j ≤ sp ∧ sp - j ≤ g3 ∧ Aside (W11.grownBy wr (some (T + 2))) ∧ Aside (Zn wr (T + 2) (.slice (some ⟨T + 2, 0, none⟩) n n) (Qk X ac (sh.take j))))
    case atStart => exact ⟨0, rfl, Nat.zero_le _, by omega, Jk _ _, (show Aside _ from by show Zn _ _ _ _; rw [List.take_zero]; exact HO6.out)⟩
    obtain ⟨j, rfl, hjs, hgj, HG7, HO7⟩ := hrel
    clear HO6
    by_cases hlt3 : j < sp
    ·
     have hltz3 : (j : Int) < (sp : Int) := by omega
     have c0 := HOS.out.cell (j := j) (by rw [HSL.out]; exact hlt3)
     have c1 : wr.cell? ⟨gq, j, none⟩ = some (.int .i64 (sh.getD j 0)) := by
      rw [World.cell?_of_block (HG7.out.block gq hq2 (fun e => by injection e with e; omega))]
      exact c0
     have hxl : (Qk X ac (sh.take j)).length = n := by rw [Jj]; exact HX.out.1
     have c2 := HO7.out.cell (j := ac + j) (by rw [hxl]; omega)
     have f2 := HO7.out.frozen (ac + j)
     have hget := Zb1 (sh.take j) X ac (ac + j) (by rw [HX.out.1]; simp; omega)
     rw [if_neg (by simp; omega), Int.add_zero] at hget
     have hxb := Zh2 HX.out (ac + j)
     have hyb := Yn HSB.out j (by rw [HSL.out]; exact hlt3)
     have hsn := Zgl (sh.take j) (sh.getD j 0) X ac
     rw [Zb4 (by rw [HSL.out]; exact hlt3), List.length_take, HSL.out, Nat.min_eq_left (by omega)] at hsn
     rw [← hget] at hxb
     generalize sh.getD j 0 = y at c1 hyb hsn
     generalize (Qk X ac (sh.take j)).getD (ac + j) 0 = x at c2 hxb hsn
     have t1 := IntWalk.i64_in (x + y) (by omega)
     have HSN := Za hsn
     clear c0 hxl hget hxb hyb hsn
     go_wp2_with fail
     go_roundg (sp - (j + 1))
     case measure => omega
     case rel => exact ⟨j + 1, by go_num, by omega, by omega, Zk HG7.out (Qt _ rfl _), (show Aside _ from by rw [HSN.out]; exact HO7.out.store (ac + j) (x + y))⟩
    have hltz3 : ¬ (j : Int) < (sp : Int) := by omega
    have hO := HO7.out
    rw [List.take_of_length_le (by rw [HSL.out]; omega), ← HST3.out] at hO
    have HO8 := Za hO
    clear hO HO7
    go_wp2_with fail
    go_roundg (cells.length - (i + 1))
    case measure => omega
    case rel => exact ⟨i + 1, by go_num, by omega, by omega, Zk HGR6.out HG7.out, HO8.out⟩
   have heq1 : (cc.cols != (sp : Int)) = true := by simpa using heq
   have hst := HST.out
   unfold Zbw at hst
   rw [if_neg heq] at hst
   have HST2 := Za hst
   have HGR4 := Za (fun (o : Obj) => Zk HGR2.out (Qd (Zc (Zf wr) o)))
   have HO4 : Hid (∀ o : Obj, Zn (wr.alloc o) (T + 2) (.slice (some ⟨T + 2, 0, none⟩) n n) X) := fun o => HO2.out.below (Zc (Zf _) _)
   clear hst HST
   go_wp2_with fail
   go_roundg (cells.length - (i + 1))
   case measure => omega
   case rel => exact ⟨i + 1, by go_num, by omega, by omega, HGR4.out _, (show Aside _ from by rw [HST2.out]; exact HO4.out _)⟩
  have hltz2 : ¬ (i : Int) < (cells.length : Int) := by omega
  have hO := HO2.out
  rw [List.take_of_length_le (by omega), HSP.out] at hO
  have HO3 : Hid (Zn wr (T + 2) (.slice (some ⟨T + 2, 0, none⟩) n n) (Zbr t.gap need cells n (k + 1))) := hO
  have t1 : IntKind.i64.wrap ((sp : Int) + 1) = ((k + 1 + 1 : Nat) : Int) := by rw [IntKind.wrap_i64]; have := HSP.out; omega
  clear hO HO2
  go_wp2_with fail
  go_roundg (4 - (k + 1))
  case measure => omega
  case rel => exact ⟨k + 1, by have := HSP.out; subst this; first | rfl | go_num, by omega, by omega, HGR2.out, HO3.out⟩
 have hltz : ¬ (sp : Int) ≤ 4 := by omega
 have hk4 : k = 4 := by omega
 subst hk4
 go_wp2_with fail
 go_ret
 refine ⟨_, rfl, ?_, KW.out wr HGR.out⟩
 rw [← Zi2]
 exact HO.out.base (by have := HTT.out; omega)
end Go.Proofs.YtgdmcmicfoamlaaGreatDoor
