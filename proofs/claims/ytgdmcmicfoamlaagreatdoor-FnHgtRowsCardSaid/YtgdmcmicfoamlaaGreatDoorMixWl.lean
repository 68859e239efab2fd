import Derived.Test.YtgdmcmicfoamlaaGreatDoorMixHh
set_option linter.unusedVariables false
set_option linter.unusedSimpArgs false
set_option maxHeartbeats 8000000
set_option maxRecDepth 100000
namespace Go.Proofs.YtgdmcmicfoamlaaGreatDoor
open Go.RowKit
theorem Zl5 {w W W' : World} {R B : Nat} (h1 : w.grownBy W (some R)) (h2 : W.grownBy W' (some B)) (hB : w.heap.size ≤ B) : w.grownBy W' (some R) :=
 ⟨h2.os.trans h1.os, h2.tape.trans h1.tape, h2.output.trans h1.output, Nat.le_trans h1.size h2.size, fun k hk hne => (h2.block k (Nat.lt_of_lt_of_le hk h1.size) (fun e => by injection e with e; omega)).trans (h1.block k hk hne)⟩
theorem Zwn {W : World} {B : Nat} {a0 a1 a2 a3 a4 : Value} (h : Zh W B [a0, a1, a2, a3, a4]) (v0 v1 v2 v3 v4 : Value) :
 Zh (((((W.setCell ⟨B, 0, none⟩ v0).setCell ⟨B, 1, none⟩ v1).setCell ⟨B, 2, none⟩ v2).setCell ⟨B, 3, none⟩ v3).setCell ⟨B, 4, none⟩ v4) B [v0, v1, v2, v3, v4] ∧ W.grownBy (((((W.setCell ⟨B, 0, none⟩ v0).setCell ⟨B, 1, none⟩ v1).setCell ⟨B, 2, none⟩ v2).setCell ⟨B, 3, none⟩ v3).setCell ⟨B, 4, none⟩ v4) (some B) := by
 have h0 := h.set (k := 0) (by simp) v0
 have h1 := h0.set (k := 1) (by simp) v1
 have h2 := h1.set (k := 2) (by simp) v2
 have h3 := h2.set (k := 3) (by simp) v3
 have h4 := h3.set (k := 4) (by simp) v4
 exact ⟨by simpa using h4, Zk (Zk (Zk (Zk (Qt _ rfl _) (Qt _ rfl _)) (Qt _ rfl _)) (Qt _ rfl _)) (Qt _ rfl _)⟩
theorem Zsy {w W : World} {R b0 : Nat} {u : Tbl} {vc vr : Value} {k : Int} (hb : Zb2 u) (hk : -1 ≤ k ∧ k ≤ 301) (hR : Qh W R 2203) (hg : w.grownBy W (some R)) (ho : Ju W b0 vc vr u) (hb0 : b0 = w.heap.size + 1) (hRl : R < w.heap.size) (v0 v1 v2 v3 v4 : Value) :
 Zkm R 3000 w (.returned (.tuple #[.agg #[vc, .int .i64 u.head, .int .i64 u.foot, vr, .int .i64 u.gap], .int .i64 k])) (((((W.setCell ⟨w.heap.size, 0, none⟩ v0).setCell ⟨w.heap.size, 1, none⟩ v1).setCell ⟨w.heap.size, 2, none⟩ v2).setCell ⟨w.heap.size, 3, none⟩ v3).setCell ⟨w.heap.size, 4, none⟩ v4) := by
 have g5 : W.grownBy (((((W.setCell ⟨w.heap.size, 0, none⟩ v0).setCell ⟨w.heap.size, 1, none⟩ v1).setCell ⟨w.heap.size, 2, none⟩ v2).setCell ⟨w.heap.size, 3, none⟩ v3).setCell ⟨w.heap.size, 4, none⟩ v4) (some w.heap.size) :=
  Zk (Zk (Zk (Zk (Qt _ rfl _) (Qt _ rfl _)) (Qt _ rfl _)) (Qt _ rfl _)) (Qt _ rfl _)
 have hlt : w.heap.size < b0 := by omega
 exact Zsh hb hk (hR.grow g5 (fun g e => by injection e with e; omega)) (by decide) (Zl5 hg g5 (Nat.le_refl _))
  (Ju.base (Ju.setA (Ju.setA (Ju.setA (Ju.setA (Ju.setA ho hlt _) hlt _) hlt _) hlt _) hlt _) (by omega))
theorem Zvc (R : Nat) (w : World) (h : Qh w R 0) : Calls Tryz.prog 74 #[.pointer (some ⟨R, 0, none⟩)] w (Zkm R 3000 w) := by
 have hRl := h.lt
 have HR := Za h
 clear h
 go_enter Tryz.func74, Tryz.ntmps74
 go_wp2_with fail
 have e1 := Zc (Zf w) (.cells #[.slice none 0 0, .int .i64 0, .int .i64 0, .slice none 0 0, .int .i64 0] 26)
 refine (Zp0 R 0 24 _ (HR.out.below e1) (by decide) (by decide) (by decide)).mono ?_
 rintro e W2 ⟨t, vc, vr, rfl, htb, hR2, hg2, hO2⟩
 obtain ⟨⟨Ac, kc, rfl⟩, Ar, kr, rfl⟩ := hO2.form
 have hs2 : w.heap.size < W2.heap.size := by have := hg2.size; simp at this; omega
 have HT := Za htb
 have HZ2 := Za ((Zh.new w Zec 26).keep (Qm hg2 (by omega) (by simp)))
 have HG2 := Za (Zk (Qd (r := some R) e1) hg2)
 obtain ⟨V, hV⟩ : ∃ V, V = W2.alloc (.cells #[.slice Ac t.cols.length kc, .int .i64 t.head, .int .i64 t.foot, .slice Ar t.rows.length kr, .int .i64 t.gap] 26) := ⟨_, rfl⟩
 have eV : Below W2.heap.size W2 V := by rw [hV]; exact Zc (Zf _) _
 have hKB : Zh V W2.heap.size [.slice Ac t.cols.length kc, .int .i64 t.head, .int .i64 t.foot, .slice Ar t.rows.length kr, .int .i64 t.gap] := by rw [hV]; exact Zh.new W2 _ _
 have hTY : Jn V W2.heap.size 26 := by rw [hV]; exact Jn.new _ _ _
 have hzV : V.heap.size = W2.heap.size + 1 := by rw [hV]; simp
 have HRV := Za (hR2.below eV)
 have HOV := Za (hO2.below eV)
 have HZV := Za (HZ2.out.keep (eV.block w.heap.size hs2))
 have HGV := Za (Zk HG2.out (Qd eV))
 have HKB := Za hKB
 have HTY := Za hTY
 have HV := Za hV
 clear e1 htb hR2 hg2 hO2 hV eV hKB hTY HZ2
 go_wp2_with fail
 rw [← HV.out]
 refine (pick R _ 8 _ HRV.out (by decide) (by decide)).mono ?_
 rintro e W3 ⟨q, rfl, _, _, hR3, hg3⟩
 have hs3 : V.heap.size ≤ W3.heap.size := hg3.size
 have HR3 := Za hR3
 have HO3 := Za (HOV.out.grow (by simp; omega) hg3)
 have HZ3 := Za (HZV.out.keep (Qm hg3 (by omega) (by omega)))
 have HK3 := Za (HKB.out.keep (Qm hg3 (by omega) (by omega)))
 have HY3 := Za (HTY.out.keep (Qm hg3 (by omega) (by omega)))
 have HG3 := Za (Zk HGV.out hg3)
 have hRV : R < (w.alloc (.cells #[.slice none 0 0, .int .i64 0, .int .i64 0, .slice none 0 0, .int .i64 0] 26)).heap.size := by simp; omega
 have hbV : (w.alloc (.cells #[.slice none 0 0, .int .i64 0, .int .i64 0, .slice none 0 0, .int .i64 0] 26)).heap.size ≤ W3.heap.size := by simp; omega
 obtain ⟨b0, hb0⟩ : ∃ b0, b0 = (w.alloc (.cells #[.slice none 0 0, .int .i64 0, .int .i64 0, .slice none 0 0, .int .i64 0] 26)).heap.size := ⟨_, rfl⟩
 rw [← hb0] at hRV hbV
 have hb1 : b0 = w.heap.size + 1 := by rw [hb0]; simp
 have HO3' : Hid (Ju W3 b0 (.slice Ac t.cols.length kc) (.slice Ar t.rows.length kr) t) := by rw [hb0]; exact HO3.out
 clear hR3 hg3 HOV HZV HKB HTY HGV HRV HO3 hb0
 go_upto_if 9 with fail
 go_cut [] from 9 to 12 (fun wx => ∃ (u : Tbl) (Ux : Option Addr) (kx : Nat), Aside (Zh wx W2.heap.size [.slice Ux u.cols.length kx, .int .i64 u.head, .int .i64 u.foot, .slice Ar u.rows.length kr, .int .i64 u.gap]) ∧ Aside (Ju wx b0 (.slice Ux u.cols.length kx) (.slice Ar u.rows.length kr) u) ∧ Aside (Zb2 u) ∧ Aside (Qh wx R 2200) ∧ Aside (w.grownBy wx (some R)) ∧ Aside (Zh wx w.heap.size Zec) ∧ W2.heap.size < wx.heap.size)
 case first =>
  by_cases z : q = 0
  ·
   subst z
   have c0 := HK3.out.1 0 _ rfl
   have c1 := HK3.out.1 1 _ rfl
   have c2 := HK3.out.1 2 _ rfl
   have c3 := HK3.out.1 3 _ rfl
   have c4 := HK3.out.1 4 _ rfl
   go_wp2_with fail
   refine (Zpn R _ b0 t Ac kc Ar kr W3 HR3.out (by decide) hbV hRV HO3'.out (Zlj HT.out)).mono ?_
   rintro e W4 ⟨xs, vc, rfl, hx, hR4, hg4, hO4⟩
   obtain ⟨⟨Ax, kx, rfl⟩, _⟩ : (∃ A c, vc = .slice A xs.length c) ∧ _ := hO4.form
   have hs4 : W3.heap.size ≤ W4.heap.size := hg4.size
   have hK4 := HK3.out.keep (Qm hg4 (by omega) (by omega))
   have hY4 := HY3.out.keep (Qm hg4 (by omega) (by omega))
   have HZ4 := Za (HZ3.out.keep (Qm hg4 (by omega) (by omega)))
   have HG4 := Za (Zk HG3.out hg4)
   have h0 := hK4.1 0 _ rfl
   have h1 := hK4.1 1 _ rfl
   have h2 := hK4.1 2 _ rfl
   have h3 := hK4.1 3 _ rfl
   have h4 := hK4.1 4 _ rfl
   have hf := hK4.2
   obtain ⟨k5, g5⟩ := Zwn hK4 (.slice Ax xs.length kx) (.int .i64 t.head) (.int .i64 t.foot) (.slice Ar t.rows.length kr) (.int .i64 t.gap)
   have HK5 := Za k5
   have HG5 := Za (Zl5 HG4.out g5 (by omega))
   have HO5 := Za (Ju.past hO4 g5 hY4 (by decide) (by decide) (by decide))
   have HR5 := Za (hR4.grow g5 (fun g e => by injection e with e; omega))
   have HZ5 := Za (HZ4.out.keep (g5.block w.heap.size (by omega) (fun e => by injection e with e; omega)))
   have hs5 := g5.size
   have HX := Za (Ztk HT.out hx)
   clear c0 c1 c2 c3 c4 hx hR4 hg4 hO4 hK4 hY4 k5 g5
   go_wp2_with fail
   go_meet
   case rel => exact ⟨{ t with cols := xs }, Ax, kx, HK5.out, HO5.out, HX.out, HR5.out.mono (by decide), HG5.out, HZ5.out, by simp at hs5; first | omega | (simp; omega)⟩
  have e0 : ((q : Int) == 0) = false := by simpa using z
  go_wp2_with fail
  go_meet
  case rel => exact ⟨t, Ac, kc, HK3.out, HO3'.out, HT.out, HR3.out.mono (by decide), HG3.out, HZ3.out, by omega⟩
 case rest =>
 obtain ⟨u, Ux, kx, HKU, HOU, HTU, HRU, HGU, HZU, hsu⟩ := hcut
 have c0 := HKU.out.1 0 _ rfl
 have c1 := HKU.out.1 1 _ rfl
 have c2 := HKU.out.1 2 _ rfl
 have c3 := HKU.out.1 3 _ rfl
 have c4 := HKU.out.1 4 _ rfl
 have hWI := fun (W : World) (h : Qh W R 2200) => Zt6 R 2200 W h (by decide)
 go_upto_region 4 with fail
 go_region_with (go_at_call 130; refine (hWI _ ?_).mono ?_; (first | exact HRU.out | exact HRU.out.below (Zt (Zf _))); rintro e W6 ⟨k, rfl, hk, hR6, hg6⟩; have hg7 := (show wc.grownBy W6 (some R) from (by first | exact hg6 | exact Zk (Qd (Zt (Zf _))) hg6)); have b0' := (HZU.out.keep (Qm hg7 (by omega) (by omega))); have r0 := b0'.1 0 _ rfl; have r1 := b0'.1 1 _ rfl; have r2 := b0'.1 2 _ rfl; have r3 := b0'.1 3 _ rfl; have r4 := b0'.1 4 _ rfl; have rf := b0'.2; have bk := (HKU.out.keep (Qm hg7 (by omega) (by omega))); have m0 := bk.1 0 _ rfl; have m1 := bk.1 1 _ rfl; have m2 := bk.1 2 _ rfl; have m3 := bk.1 3 _ rfl; have m4 := bk.1 4 _ rfl; clear b0' bk)
 all_goals
  have HO6 := Za (HOU.out.grow hRV hg7)
  have HG6 := Za (Zk HGU.out hg7)
  have HR6 := Za hR6
  clear hR6 hg6 hg7
  go_wp2_with fail
  exact bodyPost_ret (v := .tuple #[.agg #[.slice Ux u.cols.length kx, .int .i64 u.head, .int .i64 u.foot, .slice Ar u.rows.length kr, .int .i64 u.gap], .int .i64 k]) (by simp [results, Tryz.results74, go_sem, *]) rfl (Zsy HTU.out hk HR6.out HG6.out HO6.out hb1 hRl _ _ _ _ _)
theorem Zlp {w : World} {A : Option Addr} {xs : List Zl} (h : Rd gcN w A xs) (q : Nat) (hq : q < xs.length) : ∃ b o, A = some ⟨b, o, none⟩ ∧ b < w.heap.size ∧ w.cell? ⟨b, o + q * 5, none⟩ = some (.int .i64 xs[q].row) ∧ w.cell? ⟨b, o + q * 5 + 1, none⟩ = some (.int .i64 xs[q].col) ∧ w.cell? ⟨b, o + q * 5 + 2, none⟩ = some (.int .i64 xs[q].rows) ∧ w.cell? ⟨b, o + q * 5 + 3, none⟩ = some (.int .i64 xs[q].cols) ∧ w.cell? ⟨b, o + q * 5 + 4, none⟩ = some (.int .i64 xs[q].inn) := by
 obtain ⟨b, o, c0, c1, c2, c3, c4, rfl, hlt, hK, h0, h1, h2, h3, h4⟩ := h.at5 rfl (Zf _) q hq
 have e : [c0, c1, c2, c3, c4] = gcE xs[q] := hK.1
 simp only [gcE, List.cons.injEq, and_true] at e
 obtain ⟨rfl, rfl, rfl, rfl, rfl⟩ := e
 exact ⟨b, o, rfl, hlt, h0, h1, h2, h3, h4⟩
theorem Zmo (A : Option Addr) (c : Nat) (A' : Option Addr) (c' : Nat) (xs : List ByteArray) (w : World) (hr : Rd Zic w A xs) (hr' : Rd Zic w A' xs) (hn : xs.length ≤ 1000000) :
 Calls Tryz.prog 53 #[.slice A xs.length c, .slice A' xs.length c'] w fun e w' => e = .returned (.bool true) ∧ ∃ q, w' = w.drewN q := by
 have HR := Za hr
 have HR' := Za hr'
 clear hr hr'
 go_enter Tryz.func53, Tryz.ntmps53
 go_wp2_with fail
 go_loopg [5] xs.length (fun gg s5 wr => ∃ j : Nat, j ≤ xs.length ∧ xs.length - j ≤ gg ∧ s5 = .int .i64 j ∧ Aside (∃ q, wr = w.drewN q))
 case atStart => exact ⟨0, Nat.zero_le _, by omega, rfl, (show Aside _ from ⟨0, rfl⟩)⟩
 obtain ⟨j, hj, hgg, rfl, HQ⟩ := hrel
 obtain ⟨q, hq⟩ := HQ.out
 have hbw : Below w.heap.size w wr := by rw [hq]; exact Zam (Zf _) _
 by_cases hlt : j < xs.length
 ·
  have hltz : (j : Int) < (xs.length : Int) := by omega
  obtain ⟨b, o, rfl, hlb, hc⟩ := Zif HR.out hbw j hlt
  obtain ⟨b', o', rfl, hlb', hc'⟩ := Zif HR'.out hbw j hlt
  generalize xs[j] = y at hc hc'
  have HQ' := Za hq
  clear hq hbw HQ
  go_wp2_with fail
  go_quiet (fail)
  go_wp2_with fail
  go_roundg (xs.length - (j + 1))
  case measure => omega
  case rel => exact ⟨j + 1, by omega, by omega, by go_num, (show Aside _ from ⟨_, by rw [HQ'.out, World.drewN_drewN]⟩)⟩
 have hltz : ¬ (j : Int) < (xs.length : Int) := by omega
 have HQ' := Za hq
 clear hq hbw HQ
 go_wp2_with fail
 go_ret
 exact ⟨rfl, q, HQ'.out⟩
theorem Zqc (A : Option Addr) (c : Nat) (A' : Option Addr) (c' : Nat) (xss : List (List ByteArray)) (w : World) (hr : Rd (Zit Zic) w A xss) (hr' : Rd (Zit Zic) w A' xss) (hn : xss.length ≤ 1000000) (hl : ∀ l ∈ xss, l.length ≤ 1000000) :
 Calls Tryz.prog 24 #[.slice A xss.length c, .slice A' xss.length c'] w fun e w' => e = .returned (.bool true) ∧ ∃ q, w' = w.drewN q := by
 have HR := Za hr
 have HR' := Za hr'
 have HL := Za hl
 clear hr hr' hl
 go_enter Tryz.func24, Tryz.ntmps24
 go_wp2_with fail
 go_loopg [5] xss.length (fun gg s5 wr => ∃ j : Nat, j ≤ xss.length ∧ xss.length - j ≤ gg ∧ s5 = .int .i64 j ∧ Aside (∃ q, wr = w.drewN q))
 case atStart => exact ⟨0, Nat.zero_le _, by omega, rfl, (show Aside _ from ⟨0, rfl⟩)⟩
 obtain ⟨j, hj, hgg, rfl, HQ⟩ := hrel
 obtain ⟨q, hq⟩ := HQ.out
 have hbw : Below w.heap.size w wr := by rw [hq]; exact Zam (Zf _) _
 by_cases hlt : j < xss.length
 ·
  have hltz : (j : Int) < (xss.length : Int) := by omega
  obtain ⟨b, o, A2, c2, rfl, hlb, hc, hr2⟩ := Zf2 HR.out hbw j hlt
  obtain ⟨b', o', A3, c3, rfl, hlb', hc', hr3⟩ := Zf2 HR'.out hbw j hlt
  have hy := HL.out _ (List.getElem_mem hlt)
  generalize xss[j] = y at hc hc' hr2 hr3 hy
  have hcall : ∀ n, Calls Tryz.prog 53 #[.slice A2 y.length c2, .slice A3 y.length c3] (wr.drewN n) fun e w' => e = .returned (.bool true) ∧ ∃ q, w' = (wr.drewN n).drewN q := fun n => Zmo A2 c2 A3 c3 y _ (hr2.below (Zam (Zf _) _)) (hr3.below (Zam (Zf _) _)) hy
  have HQ' := Za hq
  clear hq hbw HQ hr2 hr3 hy
  go_wp2_with fail
  go_quiet (first | (go_at_call 53; refine Calls.quiet_of (hcall _)))
  go_wp2_with fail
  go_roundg (xss.length - (j + 1))
  case measure => omega
  case rel => exact ⟨j + 1, by omega, by omega, by go_num, (show Aside _ from ⟨_, by rw [HQ'.out, World.drewN_drewN]⟩)⟩
 have hltz : ¬ (j : Int) < (xss.length : Int) := by omega
 have HQ' := Za hq
 clear hq hbw HQ
 go_wp2_with fail
 go_ret
 exact ⟨rfl, q, HQ'.out⟩
theorem Zho (A : Option Addr) (c : Nat) (xs : List Int) (x : Zl) (w : World) (hr : Rd Za4 w A xs) (hb : ∀ y ∈ xs, 0 ≤ y ∧ y ≤ 1000000) (hn : xs.length ≤ 1000) (ha : 0 ≤ x.row ∧ x.row ≤ 1000000) (hk : 0 ≤ x.rows ∧ x.rows ≤ 1000000) :
 Calls Tryz.prog 29 #[.slice A xs.length c, .agg #[.int .i64 x.row, .int .i64 x.col, .int .i64 x.rows, .int .i64 x.cols, .int .i64 x.inn]] w fun e w' => e = .returned (.int .i64 (Zq (Jb xs x.row x.rows))) ∧ Below w.heap.size w w' := by
 have hS := fun (W : World) (h : Below w.heap.size w W) => Zlx A c xs x.row x.rows W (hr.below h) hn ha hk
 have hsb : Hid (∀ y ∈ Jb xs x.row x.rows, 0 ≤ y ∧ y ≤ 1000000) := fun y hy => hb y (List.mem_of_mem_drop (List.mem_of_mem_take hy))
 have hsl : (Jb xs x.row x.rows).length ≤ 1000 := by unfold Jb; simp; omega
 generalize Jb xs x.row x.rows = ys at hS hsb hsl ⊢
 clear hr hb
 go_enter Tryz.func29, Tryz.ntmps29
 go_wp2_with fail
 refine (hS _ (Zc (Zf _) _)).mono ?_
 rintro e w1 ⟨v, rfl, hO, hb1⟩
 obtain ⟨A2, c2, rfl⟩ := hO.form
 have hW := Zbm A2 c2 ys w1 (Qq hO) hsb.out (by omega)
 have HB := Za (step (Zc (Zf w) _) hb1)
 clear hO hb1 hS
 go_wp2_with fail
 refine hW.mono ?_
 rintro e w2 ⟨rfl, hb2⟩
 obtain rfl := hb2.symm
 go_wp2_with fail
 go_ret
 exact ⟨rfl, HB.out⟩
theorem Zh8 (A : Option Addr) (n c : Nat) (w : World) (h : Zcy w A n c) : Calls Tryz.prog 19 #[.slice A n c] w (Zty (-1) 301 w) := by
 have HA := Za h
 clear h
 go_enter Tryz.func19, Tryz.ntmps19
 go_wp2_with fail
 refine (Zvd A n c _ (HA.out.below (Zc (Zf w) _))).mono ?_
 rintro e W1 ⟨R, rfl, hR0, hR1, hb1⟩
 have hR0' : w.heap.size < R := by simp at hR0; omega
 have HB1 := Za (step (Zc (Zf w) (.cells #[.slice none 0 0, .int .i64 0, .int .i64 0, .slice none 0 0, .int .i64 0] 26)) hb1)
 have HZ1 := Za ((Zh.new w Zec 26).keep (hb1.block w.heap.size (by simp)))
 have hRl := hR1.lt
 have HR1 := Za hR1
 clear hR0 hR1 hb1
 go_wp2_with fail
 refine (Zvc R _ HR1.out).mono ?_
 rintro e W2 ⟨t, vc, vr, k, rfl, htb, hk, hR2, hg2, hO2⟩
 obtain ⟨⟨Ac, kc, rfl⟩, Ar, kr, rfl⟩ := hO2.form
 have HT := Za htb
 have HB2 := Za (Zsc HB1.out hg2 (by omega))
 have HZ2 := Za (HZ1.out.keep (Qm hg2 (by omega) (by omega)))
 have HO2 := Za hO2
 clear htb hR2 hg2 hO2
 have h0 : W2.cell? ⟨w.heap.size, 0, none⟩ = some (.slice none 0 0) := HZ2.out.1 0 _ rfl
 have h1 : W2.cell? ⟨w.heap.size, 1, none⟩ = some (.int .i64 0) := HZ2.out.1 1 _ rfl
 have h2 : W2.cell? ⟨w.heap.size, 2, none⟩ = some (.int .i64 0) := HZ2.out.1 2 _ rfl
 have h3 : W2.cell? ⟨w.heap.size, 3, none⟩ = some (.slice none 0 0) := HZ2.out.1 3 _ rfl
 have h4 : W2.cell? ⟨w.heap.size, 4, none⟩ = some (.int .i64 0) := HZ2.out.1 4 _ rfl
 have hf := HZ2.out.2
 go_wp2_with fail
 exact bodyPost_ret (v := .tuple #[.agg #[.slice Ac t.cols.length kc, .int .i64 t.head, .int .i64 t.foot, .slice Ar t.rows.length kr, .int .i64 t.gap], .int .i64 k]) (by simp [results, Tryz.results19, go_sem, *]) rfl (Zvv (Zwe HB2.out HO2.out (by omega) _ _ _ _ _) HT.out hk)
end Go.Proofs.YtgdmcmicfoamlaaGreatDoor
