import Derived.Test.YtgdmcmicfoamlaaGreatDoorMixWl
set_option linter.unusedVariables false
set_option linter.unusedSimpArgs false
set_option maxHeartbeats 40000000
set_option maxRecDepth 100000
namespace Go.Proofs.YtgdmcmicfoamlaaGreatDoor
open Go.RowKit
theorem Zqq {t : Tbl} (h : Qn t = true) (width : Int) (hw : 0 ≤ width ∧ width ≤ 300) : (Zar t width).length = (Zp 400 t).1.length ∧ (∀ l ∈ Zar t width, l.length ≤ 31) ∧ Zcc t width = Qr (Qf (Zp 400 t).1 (Zar t width)) t.rows.length (List.replicate t.rows.length 0) := by
 have e1 : Zar t width = Zy t (Zp 400 t).1 (Zz 400 t width) := if_pos ⟨h, hw⟩
 have e2 : Zcc t width = Zcv (Zp 400 t).1 (Zy t (Zp 400 t).1 (Zz 400 t width)) t.rows.length t.rows.length := if_pos ⟨h, hw⟩
 rw [e2, e1]
 refine ⟨by unfold Zy; simp, fun l hl => ?_, rfl⟩
 obtain ⟨x, _, rfl⟩ := List.mem_map.1 hl
 exact Zjd _ _
theorem Zuw {t : Tbl} (h : Qn t = true) {m : Nat} {LN : List (List ByteArray)} (hl : LN.length = (Zp m t).1.length) (h31 : ∀ l ∈ LN, l.length ≤ 31) :
 (Qr (Qf (Zp m t).1 LN) t.rows.length (List.replicate t.rows.length 0)).length = t.rows.length ∧ Zld (Qr (Qf (Zp m t).1 LN) t.rows.length (List.replicate t.rows.length 0)) ∧
 (∀ (i : Nat) (hi : i < (Zp m t).1.length) (hi' : i < LN.length), (LN[i].length : Int) ≤ Zq (Jb (Qr (Qf (Zp m t).1 LN) t.rows.length (List.replicate t.rows.length 0)) ((Zp m t).1[i]).row ((Zp m t).1[i]).rows)) ∧
 ∀ r : Nat, r < t.rows.length → (Qr (Qf (Zp m t).1 LN) t.rows.length (List.replicate t.rows.length 0)).getD r 0 = 0 ∨ (Qf (Zp m t).1 LN).any (fun p => decide ((r : Int) = p.1.row + p.1.rows - 1) && decide (Zq (Jb (Qr (Qf (Zp m t).1 LN) t.rows.length (List.replicate t.rows.length 0)) p.1.row p.1.rows) = p.2)) = true := by
 have hin := Zfv h m
 have hCE : ∀ p ∈ Qf (Zp m t).1 LN, 0 ≤ p.2 ∧ p.2 ≤ 31 := fun p hp => by
  have h2 : p.2 ∈ LN.map fun l => (l.length : Int) := (List.of_mem_zip (show (p.1, p.2) ∈ _ from hp)).2
  obtain ⟨l, hl, e2⟩ := List.mem_map.1 h2
  have := h31 l hl
  omega
 have hri : ∀ p ∈ Qf (Zp m t).1 LN, Zlm t.rows.length p := fun p hp => by
  have h1 := hin p.1 (List.of_mem_zip (show (p.1, p.2) ∈ _ from hp)).1
  exact ⟨h1.row, h1.rows, h1.down⟩
 obtain ⟨a1, _, _, a4, a5⟩ := Zhj hri t.rows.length (Nat.le_refl _)
 refine ⟨a1, Ze6 _ hCE _ _, fun i hi hi' => ?_, fun r hr => ?_⟩
 ·
  have hm : ((Zp m t).1[i], (LN[i].length : Int)) ∈ Qf (Zp m t).1 LN := by
   have hz : i < (Qf (Zp m t).1 LN).length := by unfold Qf; rw [List.length_zip, List.length_map]; omega
   have e : (Qf (Zp m t).1 LN)[i] = ((Zp m t).1[i], (LN[i].length : Int)) := by simp only [Qf, List.getElem_zip, List.getElem_map]
   rw [← e]; exact List.getElem_mem hz
  exact a4 _ hm (hri _ hm).2.2
 refine (a5 r hr).imp id ?_
 rintro ⟨p, hp, h1, h2⟩
 rw [List.any_eq_true]
 refine ⟨p, hp, ?_⟩
 rw [Bool.and_eq_true, decide_eq_true_iff, decide_eq_true_iff]
 exact ⟨h1.symm, h2.symm⟩
theorem Zk1 (A : Option Addr) (n c : Nat) (w : World) (hw : Zb9 w) (h : Zcy w A n c) :
 Calls Tryz.prog 3 #[.slice A n c] w fun e w' => e = .returned (.bool true) ∧ Below w.heap.size w w' := by
 have hD := Zh8 A n c w h
 have HW := Za hw
 have hn1 := h.1
 clear h hw
 by_cases hb1 : (1048576 : Int) < n
 ·
  clear hD
  go_enter Tryz.func3, Tryz.ntmps3
  go_wp2_with fail
  go_ret
  exact ⟨rfl, Zf w⟩
 go_enter Tryz.func3, Tryz.ntmps3
 go_wp2_with fail
 refine hD.mono ?_
 rintro e W1 ⟨t, vc, vr, wd, rfl, htb, hwd, hO1, hB1⟩
 obtain ⟨⟨Ac, kc, rfl⟩, Ar, kr, rfl⟩ := hO1.form
 obtain ⟨k, hy⟩ := htb.good
 have hs1 : w.heap.size ≤ W1.heap.size := hB1.size
 have HY := Za hy
 obtain ⟨V1, hV1⟩ : ∃ V, V = W1.alloc (.cells #[.slice Ac t.cols.length kc, .int .i64 t.head, .int .i64 t.foot, .slice Ar t.rows.length kr, .int .i64 t.gap] 26) := ⟨_, rfl⟩
 have hK1 : Zh V1 W1.heap.size [.slice Ac t.cols.length kc, .int .i64 t.head, .int .i64 t.foot, .slice Ar t.rows.length kr, .int .i64 t.gap] := by rw [hV1]; exact Zh.new W1 _ _
 have hz1 : V1.heap.size = W1.heap.size + 1 := by rw [hV1]; simp
 have HB1 : Hid (Below w.heap.size w V1) := by rw [hV1]; exact Zc hB1 _
 have HC1 : Hid (Rd Zbz V1 Ac t.cols) := by rw [hV1]; exact hO1.rdc.below (Zc (Zf _) _)
 have HR1 : Hid (Rd Zbp V1 Ar t.rows) := by rw [hV1]; exact (hO1.rdr (Zlj htb)).below (Zc (Zf _) _)
 have HCB : Hid (∀ W, Below V1.heap.size V1 W → Zb9 W ∧ Rd Zbz W Ac t.cols ∧ Rd Zbp W Ar t.rows ∧ Zh W W1.heap.size [.slice Ac t.cols.length kc, .int .i64 t.head, .int .i64 t.foot, .slice Ar t.rows.length kr, .int .i64 t.gap]) := fun W h => ⟨HW.out.below (step HB1.out h), HC1.out.below h, HR1.out.below h, hK1.keep (h.block _ (by omega))⟩
 have HT := Za htb
 have HV := Za hV1
 clear hD htb hO1 hB1 hy hV1 hK1
 have HRW := Za (fun (W : World) (h : Below V1.heap.size V1 W) => Zm7 t Ac kc Ar kr wd W (HCB.out W h).1 (HCB.out W h).2.1 (HCB.out W h).2.2.1 HY.out)
 have HLI := Za (fun (W : World) (h : Below V1.heap.size V1 W) => Zk5 t Ac kc Ar kr wd W (HCB.out W h).1 (HCB.out W h).2.1 (HCB.out W h).2.2.1 HY.out)
 have HSR := Za (fun (W : World) (h : Below V1.heap.size V1 W) => Zmw t Ac kc Ar kr wd W (HCB.out W h).2.1 (HCB.out W h).2.2.1 HY.out)
 have HSL := Za (fun (W : World) (h : Below V1.heap.size V1 W) => Zkw t Ac kc Ar kr wd W (HCB.out W h).2.1 (HCB.out W h).2.2.1 HY.out)
 obtain ⟨LN, hLN⟩ : ∃ L, Zar t wd = L := ⟨_, rfl⟩
 obtain ⟨R, hR⟩ : ∃ L, Zcc t wd = L := ⟨_, rfl⟩
 rw [hR] at HRW HSR
 rw [hLN] at HLI HSL
 have hbds : LN.length ≤ 1000 ∧ R.length ≤ 1000 ∧ ∀ l ∈ LN, l.length ≤ 1000000 := by
  by_cases hq : Qn t = true ∧ 0 ≤ wd ∧ wd ≤ 300
  ·
   obtain ⟨a1, a2, a3⟩ := Zqq hq.1 wd hq.2
   obtain ⟨_, _, _, _, a4⟩ := Za2 hq.1 HY.out 400 Zdn
   have a5 := (Zx hq.1).1
   rw [hLN] at a1 a2 a3
   rw [hR] at a3
   refine ⟨by omega, ?_, fun l hl => by have := a2 l hl; omega⟩
   rw [a3, Zbi]; omega
  have e1 : LN = [] := by rw [← hLN]; exact if_neg hq
  have e2 : R = [] := by rw [← hR]; exact if_neg hq
  rw [e1, e2]
  exact ⟨by simp, by simp, fun l hl => by cases hl⟩
 have HBD := Za hbds
 obtain ⟨_, _, _, hK1⟩ := HCB.out V1 (Zf V1)
 have f0 := hK1.1 0 _ rfl
 have f1 := hK1.1 1 _ rfl
 have f2 := hK1.1 2 _ rfl
 have f3 := hK1.1 3 _ rfl
 have f4 := hK1.1 4 _ rfl
 have HRE := Za (And.intro hLN hR)
 clear hK1 hbds hLN hR
 go_wp2_with fail
 rw [← HV.out]
 refine (HRW.out V1 (Zf _)).mono ?_
 rintro e W2 ⟨v, rfl, hI2, hb2⟩
 obtain ⟨AR, cR, rfl⟩ := hI2.form
 have HI2 := Za (Qq hI2)
 have HB2 := Za hb2
 obtain ⟨_, _, _, hK2⟩ := HCB.out W2 hb2
 have g0 := hK2.1 0 _ rfl
 have g1 := hK2.1 1 _ rfl
 have g2 := hK2.1 2 _ rfl
 have g3 := hK2.1 3 _ rfl
 have g4 := hK2.1 4 _ rfl
 clear f0 f1 f2 f3 f4 hI2 hb2 hK2 HV HRW
 go_wp2_with fail
 refine (HLI.out W2 HB2.out).mono ?_
 rintro e W3 ⟨v, rfl, hN3, hb3⟩
 obtain ⟨AL, cL, rfl⟩ := hN3.form
 have HN3 := Za (Zjf (enc := Zci) (k := 1) (hk := fun _ => rfl) hN3)
 have HI3 := Za (HI2.out.below hb3)
 have HB3 := Za (step HB2.out hb3)
 obtain ⟨_, _, _, hK2⟩ := HCB.out W3 HB3.out
 have f0 := hK2.1 0 _ rfl
 have f1 := hK2.1 1 _ rfl
 have f2 := hK2.1 2 _ rfl
 have f3 := hK2.1 3 _ rfl
 have f4 := hK2.1 4 _ rfl
 clear g0 g1 g2 g3 g4 hN3 hb3 hK2 HLI HI2
 go_wp2_with fail
 refine (HSR.out W3 HB3.out).mono ?_
 rintro e W4 ⟨v, rfl, hI4, hb4⟩
 obtain ⟨AM, cM, rfl⟩ := hI4.form
 have hP := Znr AR cR AM cM R W4 (HI3.out.below hb4) (Qq hI4) (by have := HBD.out.2.1; omega)
 have HI4 := Za (HI3.out.below hb4)
 have HN4 := Za (HN3.out.below hb4)
 have HB4 := Za (step HB3.out hb4)
 clear hI4 hb4 HSR HI3 HN3 f0 f1 f2 f3 f4
 go_wp2_with fail
 refine hP.mono ?_
 rintro e W5 ⟨rfl, nq, hq⟩
 have hb5 : Below W4.heap.size W4 W5 := by rw [hq]; exact Zam (Zf _) _
 have HI5 := Za (HI4.out.below hb5)
 have HN5 := Za (HN4.out.below hb5)
 have HB5 := Za (step HB4.out hb5)
 obtain ⟨_, _, _, hK2⟩ := HCB.out W5 HB5.out
 have g0 := hK2.1 0 _ rfl
 have g1 := hK2.1 1 _ rfl
 have g2 := hK2.1 2 _ rfl
 have g3 := hK2.1 3 _ rfl
 have g4 := hK2.1 4 _ rfl
 clear hP hq hb5 hK2 HI4 HN4
 go_wp2_with fail
 refine (HSL.out W5 HB5.out).mono ?_
 rintro e W6 ⟨v, rfl, hN6, hb6⟩
 obtain ⟨AN, cN, rfl⟩ := hN6.form
 have hP := Zqc AL cL AN cN LN W6 (HN5.out.below hb6) (Zjf (enc := Zci) (k := 1) (hk := fun _ => rfl) hN6) (by have := HBD.out.1; omega) HBD.out.2.2
 have HI6 := Za (HI5.out.below hb6)
 have HN6 := Za (HN5.out.below hb6)
 have HB6 := Za (step HB5.out hb6)
 clear hN6 hb6 HSL HI5 HN5 g0 g1 g2 g3 g4
 go_wp2_with fail
 refine hP.mono ?_
 rintro e W7 ⟨rfl, nq7, hq⟩
 have hb7 : Below W6.heap.size W6 W7 := by rw [hq]; exact Zam (Zf _) _
 have HI7 := Za (HI6.out.below hb7)
 have HN7 := Za (HN6.out.below hb7)
 have HB7 := Za (step HB6.out hb7)
 obtain ⟨_, _, _, hK2⟩ := HCB.out W7 HB7.out
 have g0 := hK2.1 0 _ rfl
 have g1 := hK2.1 1 _ rfl
 have g2 := hK2.1 2 _ rfl
 have g3 := hK2.1 3 _ rfl
 have g4 := hK2.1 4 _ rfl
 clear hP hq hb7 HI6 HN6
 by_cases hq : Qn t = true ∧ 0 ≤ wd ∧ wd ≤ 300
 ·
  obtain ⟨hok, hwd3⟩ := hq
  obtain ⟨b1, b2, b3⟩ := Zqq hok wd hwd3
  rw [HRE.out.1] at b1 b2 b3
  rw [HRE.out.2] at b3
  obtain ⟨o1, o2, o3, o4⟩ := Zuw (m := 400) hok b1 b2
  rw [← b3] at o1 o2 o3 o4
  have hrw := (Zx hok).1
  have hgr : Zao 400 t = ⟨t.rows.length, (Zp 400 t).2, (Zp 400 t).1⟩ := by unfold Zao; rw [if_pos hok]
  obtain ⟨m, hm, _, hneed, hgl⟩ := Za2 hok HY.out 400 Zdn
  have hgin := Zfv hok 400
  have hsm : Hid (∀ x ∈ (Zp 400 t).1, GSm x) := (GIn.rows (m := 400) hok).sm (by omega)
  have hCA : ∀ x ∈ (Zp 400 t).1, Zng x ∧ (1 ≤ x.rows ∧ x.row + x.rows ≤ t.rows.length) := fun x hx => by
   have h2 := hgin x hx
   rw [hm] at h2
   have a1 := h2.row
   have a2 := h2.rows
   have a3 := h2.down
   have a4 := h2.col
   have a5 := h2.cols
   have a6 := h2.right
   exact ⟨⟨⟨by omega, by omega⟩, ⟨by omega, by omega⟩, ⟨by omega, by omega⟩, ⟨by omega, by omega⟩⟩, by omega, a3⟩
  obtain ⟨GL, hGL⟩ : ∃ GL, (Zp 400 t).1 = GL := ⟨_, rfl⟩
  rw [hGL] at b1 o3 o4 hgl hsm hCA hgr
  have hG7 := Zkh t Ac kc Ar kr W7 (HCB.out W7 HB7.out).1 (HCB.out W7 HB7.out).2.1 (HCB.out W7 HB7.out).2.2.1
  rw [hgr, hm] at hG7
  have hl0 : ((R.length : Int) == 0) = false := beq_eq_false_iff_ne.2 (by omega)
  have HCA := Za hCA
  have HO2 := Za o2
  have HO3 := Za o3
  have HO4 := Za o4
  have HL := Za b1
  have HO1 := Za o1
  have HGN := Za hgl
  clear hK2 b1 b2 b3 o1 o2 o3 o4 hrw hgr hm hneed hgl hgin hCA hGL HRE hwd3 hok HT
  go_wp2_with fail
  refine hG7.mono ?_
  rintro e W9 ⟨GA, gc, rfl, hown, hb9⟩
  dsimp only at hown ⊢
  have hrd9 := Zmr hown hsm.out
  obtain ⟨V, hV⟩ : ∃ V, V = W9.alloc (.cells #[.int .i64 t.rows.length, .int .i64 m, .slice GA GL.length gc] 39) := ⟨_, rfl⟩
  have eV : Below W9.heap.size W9 V := by rw [hV]; exact Zc (Zf _) _
  have HG := Za (Zvt (hrd9.below eV) (fun x hx => (HCA.out x hx).1))
  have HI := Za ((HI7.out.below hb9).below eV)
  have HN := Za ((HN7.out.below hb9).below eV)
  have HBV : Hid (Below V1.heap.size V1 V) := step (step HB7.out hb9) eV
  have HKG : Hid (Zh V W9.heap.size [.int .i64 t.rows.length, .int .i64 m, .slice GA GL.length gc]) := by rw [hV]; exact Zh.new W9 _ _
  have HV := Za hV
  clear g0 g1 g2 g3 g4 hb9 eV hown hrd9 hV hG7 HI7 HN7 HB2 HB3 HB4 HB5 HB6 HB7 hl0
  go_wp2_with fail
  rw [← HV.out]
  clear HV
  go_loopg [8] GL.length (fun gg s8 wr => ∃ i : Nat, i ≤ GL.length ∧ GL.length - i ≤ gg ∧ s8 = .int .i64 i ∧ Aside (Below V.heap.size V wr))
  case atStart => exact ⟨0, Nat.zero_le _, by omega, rfl, Zf _⟩
  obtain ⟨i, hi, hgg, rfl, HB⟩ := hrel
  have y2 : wr.cell? ⟨W9.heap.size, 2, none⟩ = some (.slice GA GL.length gc) := Zg HB.out (HKG.out.1 2 _ rfl)
  by_cases hlt : i < GL.length
  ·
   have hltz : (i : Int) < (GL.length : Int) := by omega
   have hlnl : i < LN.length := by have := HL.out; omega
   obtain ⟨bG, oG, rfl, hbg, k0, k1, k2, k3, k4⟩ := Zlp HG.out i hlt
   have h3 := HO3.out i hlt hlnl
   have hPC := (HCA.out GL[i] (List.getElem_mem hlt)).1
   obtain ⟨xg, hxg⟩ : ∃ x, GL[i] = x := ⟨_, rfl⟩
   rw [hxg] at k0 k1 k2 k3 k4 h3 hPC
   obtain ⟨bl, ol, A2, c2, rfl, hbl, hli, _⟩ := Zf2 HN.out HB.out i hlnl
   obtain ⟨ls, hls⟩ : ∃ l, LN[i] = l := ⟨_, rfl⟩
   rw [hls] at h3 hli
   have hlz : (i : Int) < (LN.length : Int) := by omega
   have hHC := fun (W : World) (h : Below V.heap.size V W) => Zho AR cR R xg W (HI.out.below h) (fun y hy => by have := HO2.out y hy; omega) (by have := HBD.out.2.1; omega) hPC.1 hPC.2.2.1
   obtain ⟨hc9, hhc9⟩ : ∃ z, Zq (Jb R xg.row xg.rows) = z := ⟨_, rfl⟩
   rw [hhc9] at h3 hHC
   have hcmp : ¬ (hc9 < (ls.length : Int)) := by omega
   have HHC := Za hHC
   have x0 := Zg HB.out k0
   have x1 := Zg HB.out k1
   have x2 := Zg HB.out k2
   have x3 := Zg HB.out k3
   have x4 := Zg HB.out k4
   clear k0 k1 k2 k3 k4 h3 hPC hxg hls hHC hhc9
   go_upto_region 14 with fail
   have ed := Zt (Zf wr)
   have HBD := Za (Zt HB.out)
   have z2 := Zg ed y2
   have z3 := Zg ed hli
   have w0 := Zg ed x0
   have w1 := Zg ed x1
   have w2 := Zg ed x2
   have w3 := Zg ed x3
   have w4 := Zg ed x4
   clear ed y2 hli x0 x1 x2 x3 x4
   obtain ⟨KF, hKF⟩ : ∃ f : Nat → Value → World → Prop, f = (fun j v W => match j with | 0 => v = .slice AR R.length cR | 1 => v = .pointer (some ⟨W9.heap.size, 2, none⟩) | 2 => v = .slice (some ⟨bG, oG, none⟩) GL.length gc | 3 => v = .int .i64 ↑i | 4 => v = .pointer (some ⟨bG, oG + i * 5, none⟩) | 5 => v = .agg #[.int .i64 xg.row, .int .i64 xg.col, .int .i64 xg.rows, .int .i64 xg.cols, .int .i64 xg.inn] | 6 => v = .int .i64 hc9 | 7 => v = .slice (some ⟨bl, ol, none⟩) LN.length cL | 8 => v = .int .i64 ↑i | 9 => v = .pointer (some ⟨bl, ol + i, none⟩) | 10 => v = .slice A2 ls.length c2 | 11 => v = .int .i64 (ls.length : Int) | 12 => v = .bool false | _ => True) := ⟨_, rfl⟩
   have KK := Za (kf hKF)
   have HST : Yw KF := by rw [hKF]; exact fun _ _ _ _ h _ => h
   clear hKF
   obtain ⟨dep, hdep⟩ : ∃ f : Nat → List Nat, f = (fun j => match j with | 2 => [1] | 4 => [2, 3] | 5 => [4] | 6 => [0, 5] | 9 => [7, 8] | 10 => [9] | 11 => [10] | 12 => [6, 11] | _ => []) := ⟨_, rfl⟩
   have DD := Za hdep
   clear hdep
   have HLD : Yt 13 13 dep := Zgw (by decide)
   obtain ⟨st, hst⟩ : ∃ f : Nat → Value, f = (fun j => match j with | 0 => u67 | 1 => u68 | 2 => u69 | 3 => u70 | 4 => u71 | 5 => u72 | 6 => u73 | 7 => u74 | 8 => u75 | 9 => u76 | 10 => u77 | 11 => u78 | 12 => u79 | _ => undef) := ⟨_, rfl⟩
   have ST := Za hst
   clear hst
   refine Qe (fun l a W => ∃ vs : Nat → Value, a = ⟨List.toArray (.slice A n c :: Zb :: u2 :: .pointer (some ⟨W1.heap.size, 0, none⟩) :: .int .i64 wd :: .slice AR R.length cR :: .slice (some ⟨bl, ol, none⟩) LN.length cL :: .pointer (some ⟨W9.heap.size, 0, none⟩) :: .int .i64 ↑i :: Zb :: Zb :: Zb :: Zb :: .slice A n c :: .int .i64 ↑n :: .bool false :: .tuple #[(Ya Ac t kc Ar kr), .int .i64 wd] :: .slice A n c :: .tuple #[(Ya Ac t kc Ar kr), .int .i64 wd] :: (Ya Ac t kc Ar kr) :: .int .i64 wd :: (Ya Ac t kc Ar kr) :: .int .i64 wd :: .slice AR R.length cR :: (Ya Ac t kc Ar kr) :: .int .i64 wd :: .slice (some ⟨bl, ol, none⟩) LN.length cL :: .slice AR R.length cR :: (Ya Ac t kc Ar kr) :: .int .i64 wd :: .slice AM R.length cM :: .bool true :: .bool false :: .bool false :: .slice (some ⟨bl, ol, none⟩) LN.length cL :: (Ya Ac t kc Ar kr) :: .int .i64 wd :: .slice AN LN.length cN :: .bool true :: .bool false :: .bool false :: .slice AR R.length cR :: .int .i64 ↑R.length :: .bool false :: Zb :: Zb :: Zb :: Zb :: Zb :: Zb :: Zb :: Zb :: Zb :: Zb :: Zb :: Zb :: Zb :: Zb :: (Ya Ac t kc Ar kr) :: .agg #[.int .i64 ↑t.rows.length, .int .i64 ↑m, .slice (some ⟨bG, oG, none⟩) GL.length gc] :: .int .i64 ↑i :: .pointer (some ⟨W9.heap.size, 2, none⟩) :: .slice (some ⟨bG, oG, none⟩) GL.length gc :: .int .i64 ↑GL.length :: .bool true :: u65 :: u66 :: vs 0 :: vs 1 :: vs 2 :: vs 3 :: vs 4 :: vs 5 :: vs 6 :: vs 7 :: vs 8 :: vs 9 :: vs 10 :: vs 11 :: vs 12 :: Zb :: Zb :: Zb :: Zb :: Zb :: Zb :: Zb :: Zb :: Zb :: Zb :: Zb :: Zb :: Zb :: Zb :: Zb :: Zb :: Zb :: Zb :: Zb :: Zb :: Zb :: Zb :: Zb :: Zb :: Zb :: Zb :: Zb :: Zb :: Zb :: Zb :: Zb :: Zb :: Zb :: Zb :: Zb :: Zb :: Zb :: Zb :: Zb :: Zb :: Zb :: Zb :: Zb :: Zb :: Zb :: Zb :: Zb :: Zb :: Zb :: Zb :: Zb :: Zb :: Zb :: []), []⟩ ∧ Yp KF 13 13 dep (wr.drew) (fun _ _ _ => True) st l vs W) (by kernel_rfl) ?top ?start ?step ?fin
   case top => exact Zae (by kernel_rfl)
   case start => exact ⟨st, by rw [ST.out]; first | done | rfl, Yp.start⟩
   case step =>
    rintro l a W i o ho hl hpre hsz ⟨vs, rfl, hM0⟩ K hK
    have hi : i < 13 := (Array.getElem?_eq_some_iff.1 ho).1
    obtain rfl|rfl|rfl|rfl|rfl|rfl|rfl|rfl|rfl|rfl|rfl|rfl|rfl := Zuu hi
    all_goals
     simp only [List.getElem?_toArray, List.getElem?_cons_zero, List.getElem?_cons_succ, Option.some.injEq] at ho
     subst ho
     have hMB := hM0.below HLD hi (by decide) hl
     have hMG := hM0.get HLD hi (by decide) hl
     have hV := Zsd KK hMG hpre
     try have stl := hM0.sti HLD HST KK DD hpre hi (by decide) hl
    · go_simp
      exact hK.out _ _ ⟨Zd vs 0 _, rfl, stl _ rfl rfl⟩
    · go_simp
      exact hK.out _ _ ⟨Zd vs 1 _, rfl, stl _ rfl rfl⟩
    · have v1 : vs 1 = .pointer (some ⟨W9.heap.size, 2, none⟩) := hV 1 rfl
      have x0 := Zg hMB z2
      rw [v1]
      go_simp
      exact hK.out _ _ ⟨Zd vs 2 _, (by simp [Zd, v1]), stl _ rfl rfl⟩
    · go_simp
      exact hK.out _ _ ⟨Zd vs 3 _, rfl, stl _ rfl rfl⟩
    · have v2 : vs 2 = .slice (some ⟨bG, oG, none⟩) GL.length gc := hV 2 rfl
      have v3 : vs 3 = .int .i64 ↑i := hV 3 rfl
      rw [v2, v3]
      go_simp
      exact hK.out _ _ ⟨Zd vs 4 _, (by simp [Zd, v2, v3]), stl _ rfl rfl⟩
    ·
     have v4 : vs 4 = .pointer (some ⟨bG, oG + i * 5, none⟩) := hV 4 rfl
     have x0 := Zg hMB w0
     have x1 := Zg hMB w1
     have x2 := Zg hMB w2
     have x3 := Zg hMB w3
     have x4 := Zg hMB w4
     rw [v4]
     go_simp
     exact hK.out _ _ ⟨Zd vs 5 _, (by simp [Zd, v4]), stl _ rfl rfl⟩
    ·
     have v0 : vs 0 = .slice AR R.length cR := hV 0 rfl
     have v5 : vs 5 = .agg #[.int .i64 xg.row, .int .i64 xg.col, .int .i64 xg.rows, .int .i64 xg.cols, .int .i64 xg.inn] := hV 5 rfl
     have hdp := dpa DD hpre 6 rfl
     rw [v0, v5]
     go_simp
     refine (HHC.out W (step HBD.out hMB)).mono ?_
     rintro e5 W5 ⟨rfl, hb5⟩
     exact hK.out _ _ ⟨Zd vs 6 (.int .i64 hc9), (by simp [Zd, v0, v5]), hM0.next HLD HST 6 (by decide) (by decide) hl _ hdp hb5 ((KK.out 6 _ _).2 rfl)⟩
    · go_simp
      exact hK.out _ _ ⟨Zd vs 7 _, rfl, stl _ rfl rfl⟩
    · go_simp
      exact hK.out _ _ ⟨Zd vs 8 _, rfl, stl _ rfl rfl⟩
    · have v7 : vs 7 = .slice (some ⟨bl, ol, none⟩) LN.length cL := hV 7 rfl
      have v8 : vs 8 = .int .i64 ↑i := hV 8 rfl
      rw [v7, v8]
      go_simp
      exact hK.out _ _ ⟨Zd vs 9 _, (by simp [Zd, v7, v8]), stl _ rfl rfl⟩
    · have v9 : vs 9 = .pointer (some ⟨bl, ol + i, none⟩) := hV 9 rfl
      have x0 := Zg hMB z3
      rw [v9]
      go_simp
      exact hK.out _ _ ⟨Zd vs 10 _, (by simp [Zd, v9]), stl _ rfl rfl⟩
    · have v10 : vs 10 = .slice A2 ls.length c2 := hV 10 rfl
      rw [v10]
      go_simp
      exact hK.out _ _ ⟨Zd vs 11 _, (by simp [Zd, v10]), stl _ rfl rfl⟩
    have v6 : vs 6 = .int .i64 hc9 := hV 6 rfl
    have v11 : vs 11 = .int .i64 (ls.length : Int) := hV 11 rfl
    rw [v6, v11]
    go_simp
    exact hK.out _ _ ⟨Zd vs 12 _, (by simp [Zd, v6, v11]), stl _ rfl rfl⟩
   rintro l a W14 hall ⟨vs14, rfl, hM0⟩
   obtain ⟨hMB, hMG⟩ := hM0.fin0 (by decide) hall
   have HBW := Za hMB
   have v12 : vs14 12 = .bool false := (KK.out 12 _ _).1 (hMG 12 (by decide))
   rw [v12]
   clear KK DD ST HLD HST hMG v12 hMB hall hM0 st z2 z3 w0 w1 w2 w3 w4
   have hg40 := HGN.out
   go_wp2_with fail
   go_roundg (GL.length - (i + 1))
   case measure => omega
   case rel => exact ⟨i + 1, by omega, by omega, by go_num, step HBD.out HBW.out⟩
  have hie : i = GL.length := by omega
  subst hie
  have hltz : ¬ (GL.length : Int) < (GL.length : Int) := by omega
  go_wp2_with fail
  have HBL := Za HB.out
  clear HB y2
  go_loopg [9, 10, 11, 12] R.length (fun gg s9 s10 s11 s12 wr => ∃ r : Nat, r ≤ R.length ∧ R.length - r ≤ gg ∧ s9 = .int .i64 r ∧ Aside (Below V.heap.size V wr))
  case atStart => exact ⟨0, Nat.zero_le _, by omega, rfl, HBL.out⟩
  obtain ⟨r, hr, hgr, rfl, HB⟩ := hrel
  by_cases hlr : r < R.length
  ·
   have hlrz : (r : Int) < (R.length : Int) := by omega
   obtain ⟨bR, oR, rfl, _, hri⟩ := Za3 HI.out HB.out r hlr
   have h4 := HO4.out r (by have := HO1.out; omega)
   obtain ⟨zr, hzr⟩ : ∃ z, R.getD r 0 = z := ⟨_, rfl⟩
   rw [hzr] at hri h4
   obtain ⟨nb, hnb⟩ : ∃ f : Zl × Int → Bool, f = fun p => decide ((r : Int) = p.1.row + p.1.rows - 1) && decide (Zq (Jb R p.1.row p.1.rows) = p.2) := ⟨_, rfl⟩
   rw [← hnb] at h4
   have HNB := Za hnb
   have H4 := Za h4
   have hr1000 := HBD.out.2.1
   clear hzr hnb h4
   have y2 : wr.cell? ⟨W9.heap.size, 2, none⟩ = some (.slice GA GL.length gc) := Zg HB.out (HKG.out.1 2 _ rfl)
   go_wp2_with fail
   clear hri y2
   go_loopg [10, 11, 12] GL.length (fun gg s10 s11 s12 wr => ∃ i : Nat, i ≤ GL.length ∧ GL.length - i ≤ gg ∧ s11 = .int .i64 i ∧ s10 = .bool (zr == 0 || ((Qf GL LN).take i).any nb) ∧ Aside (Below V.heap.size V wr))
   case atStart => exact ⟨0, Nat.zero_le _, by omega, rfl, by simp, HB.out⟩
   obtain ⟨i, hi, hgi, rfl, rfl, HB2⟩ := hrel
   clear HB
   have y2 : wr.cell? ⟨W9.heap.size, 2, none⟩ = some (.slice GA GL.length gc) := Zg HB2.out (HKG.out.1 2 _ rfl)
   by_cases hlt : i < GL.length
   ·
    have hltz : (i : Int) < (GL.length : Int) := by omega
    have hlnl : i < LN.length := by have := HL.out; omega
    obtain ⟨bG, oG, rfl, hbg, k0, k1, k2, k3, k4⟩ := Zlp HG.out i hlt
    have hPC := (HCA.out GL[i] (List.getElem_mem hlt)).1
    obtain ⟨xg, hxg⟩ : ∃ x, GL[i] = x := ⟨_, rfl⟩
    rw [hxg] at k0 k1 k2 k3 k4 hPC
    obtain ⟨bl, ol, A2, c2, rfl, hbl, hli, _⟩ := Zf2 HN.out HB2.out i hlnl
    obtain ⟨ls, hls⟩ : ∃ l, LN[i] = l := ⟨_, rfl⟩
    rw [hls] at hli
    have hlz : (i : Int) < (LN.length : Int) := by omega
    have hst : ((Qf GL LN).take (i + 1)).any nb = (((Qf GL LN).take i).any nb || nb (xg, (ls.length : Int))) := by
     have hcl2 : i < (Qf GL LN).length := by unfold Qf; rw [List.length_zip, List.length_map]; omega
     have e9 : (Qf GL LN)[i] = (xg, (ls.length : Int)) := by
      simp only [Qf, List.getElem_zip, List.getElem_map]
      rw [hxg, hls]
     rw [List.take_succ_eq_append_getElem hcl2, List.any_append, e9]; simp
    have hHC := fun (W : World) (h : Below V.heap.size V W) => Zho (some ⟨bR, oR, none⟩) cR R xg W (HI.out.below h) (fun y hy => by have := HO2.out y hy; omega) (by have := HBD.out.2.1; omega) hPC.1 hPC.2.2.1
    have hnx : nb (xg, (ls.length : Int)) = (decide ((r : Int) = xg.row + xg.rows - 1) && decide (Zq (Jb R xg.row xg.rows) = (ls.length : Int))) := by rw [HNB.out]
    obtain ⟨hc9, hhc9⟩ : ∃ z, Zq (Jb R xg.row xg.rows) = z := ⟨_, rfl⟩
    rw [hhc9] at hHC hnx
    have p1 := hPC.1
    have p2 := hPC.2.2.1
    have t1 := IntWalk.i64_in (xg.row + xg.rows) (by omega)
    have t2 := IntWalk.i64_in (xg.row + xg.rows - 1) (by omega)
    obtain ⟨bn, hbn⟩ : ∃ b, (zr == 0 || ((Qf GL LN).take i).any nb) = b := ⟨_, rfl⟩
    have hst2 : (zr == 0 || ((Qf GL LN).take (i + 1)).any nb) = (bn || nb (xg, (ls.length : Int))) := by rw [hst, ← Bool.or_assoc, hbn]
    rw [hnx] at hst2
    rw [hbn]
    have x0 := Zg HB2.out k0
    have x1 := Zg HB2.out k1
    have x2 := Zg HB2.out k2
    have x3 := Zg HB2.out k3
    have x4 := Zg HB2.out k4
    have HHC := Za hHC
    have HST := Za hst2
    clear k0 k1 k2 k3 k4 hPC hxg hls hHC hhc9 hst hnx hbn hst2 p1 p2
    go_upto_region 24 with fail
    obtain ⟨V7, hV7⟩ : ∃ W, W = wr.alloc (.cells #[.int .i64 xg.row, .int .i64 xg.col, .int .i64 xg.rows, .int .i64 xg.cols, .int .i64 xg.inn] 43) := ⟨_, rfl⟩
    rw [← hV7]
    have hK8 : Zh V7 wr.heap.size [.int .i64 xg.row, .int .i64 xg.col, .int .i64 xg.rows, .int .i64 xg.cols, .int .i64 xg.inn] := by rw [hV7]; exact Zh.new wr _ _
    have ed : Below wr.heap.size wr V7.drew := Zt (by rw [hV7]; exact Zc (Zf _) _)
    have HBD := Za (step HB2.out ed)
    have w0 := Zg (Zt (Zf V7)) (hK8.1 0 _ rfl)
    have w1 := Zg (Zt (Zf V7)) (hK8.1 1 _ rfl)
    have w2 := Zg (Zt (Zf V7)) (hK8.1 2 _ rfl)
    have w3 := Zg (Zt (Zf V7)) (hK8.1 3 _ rfl)
    have w4 := Zg (Zt (Zf V7)) (hK8.1 4 _ rfl)
    have z3 := Zg ed hli
    clear ed hli x0 x1 x2 x3 x4 hV7 hK8
    cases bn with
    | true =>
     have HFIN : Hid ((zr == 0 || ((Qf GL LN).take (i + 1)).any nb) = true) := by show _ = _; rw [HST.out]; rfl
     obtain ⟨KF, hKF⟩ : ∃ f : Nat → Value → World → Prop, f = (fun j v W => match j with | 0 => v = .bool true | 1 => v = .bool true | 2 => v = undef | 3 => v = undef | 4 => v = undef | 5 => v = undef | 6 => v = undef | 7 => v = undef | 8 => v = undef | 9 => v = undef | 10 => v = undef | 11 => v = undef | 12 => v = undef | 13 => v = undef | 14 => v = undef | 15 => v = undef | 16 => v = undef | 17 => v = undef | 18 => v = undef | 19 => v = undef | 20 => v = undef | _ => True) := ⟨_, rfl⟩
     have KK := Za (kf hKF)
     have HST : Yw KF := by
      rw [hKF]
      intro j v W W9 h hb
      by_cases hjn : j < 23
      ·
       obtain rfl|rfl|rfl|rfl|rfl|rfl|rfl|rfl|rfl|rfl|rfl|rfl|rfl|rfl|rfl|rfl|rfl|rfl|rfl|rfl|rfl|rfl|rfl : j = 0 ∨ j = 1 ∨ j = 2 ∨ j = 3 ∨ j = 4 ∨ j = 5 ∨ j = 6 ∨ j = 7 ∨ j = 8 ∨ j = 9 ∨ j = 10 ∨ j = 11 ∨ j = 12 ∨ j = 13 ∨ j = 14 ∨ j = 15 ∨ j = 16 ∨ j = 17 ∨ j = 18 ∨ j = 19 ∨ j = 20 ∨ j = 21 ∨ j = 22 := by omega
       · exact h
       · exact h
       · exact h
       · exact h
       · exact h
       · exact h
       · exact h
       · exact h
       · exact h
       · exact h
       · exact h
       · exact h
       · exact h
       · exact h
       · exact h
       · exact h
       · exact h
       · exact h
       · exact h
       · exact h
       · exact h
       · exact trivial
       exact trivial
      obtain ⟨k, rfl⟩ : ∃ k, j = k + 23 := ⟨j - 23, by omega⟩
      exact h
     clear hKF
     obtain ⟨dep, hdep⟩ : ∃ f : Nat → List Nat, f = (fun j => match j with | 1 => [0] | 2 => [1] | 3 => [1] | 4 => [3, 1] | 5 => [1] | 6 => [5, 1] | 7 => [4, 6, 1] | 8 => [7, 1] | 9 => [2, 8, 1] | 10 => [9, 1] | 11 => [10] | 12 => [10] | 13 => [11, 12, 10] | 14 => [10] | 15 => [10] | 16 => [14, 15, 10] | 17 => [16, 10] | 18 => [17, 10] | 19 => [13, 18, 10] | 20 => [10, 19, 1] | 21 => [1, 20] | 22 => [21, 13] | _ => []) := ⟨_, rfl⟩
     have DD := Za hdep
     clear hdep
     have HLD : Yt 23 21 dep := Zbo DD.out (by decide)
     obtain ⟨st, hst⟩ : ∃ f : Nat → Value, f = (fun j => match j with | 0 => u103 | 1 => u104 | 2 => u105 | 3 => u106 | 4 => u107 | 5 => u108 | 6 => u109 | 7 => u110 | 8 => u111 | 9 => u112 | 10 => u113 | 11 => u114 | 12 => u115 | 13 => u116 | 14 => u117 | 15 => u118 | 16 => u119 | 17 => u120 | 18 => u121 | 19 => u122 | 20 => u123 | 21 => u124 | 22 => .bool true | _ => undef) := ⟨_, rfl⟩
     have ST := Za hst
     clear hst
     refine Qe (fun l a W => ∃ vs : Nat → Value, a = ⟨List.toArray (.slice A n c :: Zb :: u2 :: .pointer (some ⟨W1.heap.size, 0, none⟩) :: .int .i64 wd :: .slice (some ⟨bR, oR, none⟩) R.length cR :: .slice (some ⟨bl, ol, none⟩) LN.length cL :: .pointer (some ⟨W9.heap.size, 0, none⟩) :: .int .i64 ↑GL.length :: .int .i64 ↑r :: vs 22 :: .int .i64 ↑i :: .pointer (some ⟨wr.heap.size, 0, none⟩) :: .slice A n c :: .int .i64 ↑n :: .bool false :: .tuple #[(Ya Ac t kc Ar kr), .int .i64 wd] :: .slice A n c :: .tuple #[(Ya Ac t kc Ar kr), .int .i64 wd] :: (Ya Ac t kc Ar kr) :: .int .i64 wd :: (Ya Ac t kc Ar kr) :: .int .i64 wd :: .slice (some ⟨bR, oR, none⟩) R.length cR :: (Ya Ac t kc Ar kr) :: .int .i64 wd :: .slice (some ⟨bl, ol, none⟩) LN.length cL :: .slice (some ⟨bR, oR, none⟩) R.length cR :: (Ya Ac t kc Ar kr) :: .int .i64 wd :: .slice AM R.length cM :: .bool true :: .bool false :: .bool false :: .slice (some ⟨bl, ol, none⟩) LN.length cL :: (Ya Ac t kc Ar kr) :: .int .i64 wd :: .slice AN LN.length cN :: .bool true :: .bool false :: .bool false :: .slice (some ⟨bR, oR, none⟩) R.length cR :: .int .i64 ↑R.length :: .bool false :: Zb :: Zb :: Zb :: Zb :: Zb :: Zb :: Zb :: Zb :: Zb :: Zb :: Zb :: Zb :: Zb :: Zb :: (Ya Ac t kc Ar kr) :: .agg #[.int .i64 ↑t.rows.length, .int .i64 ↑m, .slice (some ⟨bG, oG, none⟩) GL.length gc] :: .int .i64 ↑GL.length :: .pointer (some ⟨W9.heap.size, 2, none⟩) :: .slice (some ⟨bG, oG, none⟩) GL.length gc :: .int .i64 ↑GL.length :: .bool false :: u65 :: u66 :: u67 :: u68 :: u69 :: u70 :: u71 :: u72 :: u73 :: u74 :: u75 :: u76 :: u77 :: u78 :: u79 :: .int .i64 ↑r :: .slice (some ⟨bR, oR, none⟩) R.length cR :: .int .i64 ↑R.length :: .bool true :: u84 :: u85 :: .slice (some ⟨bR, oR, none⟩) R.length cR :: .int .i64 ↑r :: .pointer (some ⟨bR, oR + r, none⟩) :: .int .i64 zr :: .bool (zr == 0) :: .int .i64 ↑i :: .pointer (some ⟨W9.heap.size, 2, none⟩) :: .slice (some ⟨bG, oG, none⟩) GL.length gc :: .int .i64 ↑GL.length :: .bool true :: u96 :: u97 :: .pointer (some ⟨W9.heap.size, 2, none⟩) :: .slice (some ⟨bG, oG, none⟩) GL.length gc :: .int .i64 ↑i :: .pointer (some ⟨bG, oG + i * 5, none⟩) :: .agg #[.int .i64 xg.row, .int .i64 xg.col, .int .i64 xg.rows, .int .i64 xg.cols, .int .i64 xg.inn] :: vs 0 :: vs 1 :: vs 2 :: vs 3 :: vs 4 :: vs 5 :: vs 6 :: vs 7 :: vs 8 :: vs 9 :: vs 10 :: vs 11 :: vs 12 :: vs 13 :: vs 14 :: vs 15 :: vs 16 :: vs 17 :: vs 18 :: vs 19 :: vs 20 :: vs 21 :: u125 :: u126 :: Zb :: Zb :: Zb :: Zb :: Zb :: Zb :: []), []⟩ ∧ Yp KF 23 21 dep (V7.drew) (fun W v W2 => v = .bool true ∧ W2 = W) st l vs W) (by kernel_rfl) ?top ?start ?step ?fin
     case top => exact Zae (by kernel_rfl)
     case start => exact ⟨st, by rw [ST.out]; first | done | rfl, Yp.start⟩
     case step =>
      rintro l a W i o ho hl hpre hsz ⟨vs, rfl, hM0⟩ K hK
      have hi : i < 23 := (Array.getElem?_eq_some_iff.1 ho).1
      obtain rfl|rfl|rfl|rfl|rfl|rfl|rfl|rfl|rfl|rfl|rfl|rfl|rfl|rfl|rfl|rfl|rfl|rfl|rfl|rfl|rfl|rfl|rfl := Zvu hi
      all_goals
       simp only [List.getElem?_toArray, List.getElem?_cons_zero, List.getElem?_cons_succ, Option.some.injEq] at ho
       subst ho
       have hPR := Zce hpre
      · have hMB := hM0.below HLD hi (by decide) hl
        have hMG := hM0.get HLD hi (by decide) hl
        have v22 : vs 22 = .bool true := (hM0.getStale HLD hi (by decide) hl 22 (by decide)).trans (congrFun ST.out 22)
        have hdp := dpa DD hpre 0 rfl
        rw [v22]
        go_simp
        exact hK.out _ _ ⟨Zd vs 0 (.bool true), (by simp [Zd, v22]), hM0.still HLD HST 0 (by decide) (by decide) hl _ hdp ((KK.out 0 _ _).2 rfl)⟩
      · have hMB := hM0.below HLD hi (by decide) hl
        have hMG := hM0.get HLD hi (by decide) hl
        have v0 : vs 0 = .bool true := (KK.out 0 _ _).1 (hMG 0 (by decide) (hPR 0 rfl))
        have hdp := dpa DD hpre 1 rfl
        rw [v0]
        go_simp
        exact hK.out _ _ ⟨Zd vs 1 (.bool true), (by simp [Zd, v0]), hM0.still HLD HST 1 (by decide) (by decide) hl _ hdp ((KK.out 1 _ _).2 rfl)⟩
      · have hMB := hM0.below HLD hi (by decide) hl
        have hMG := hM0.get HLD hi (by decide) hl
        have v1 : vs 1 = .bool true := (KK.out 1 _ _).1 (hMG 1 (by decide) (hPR 1 rfl))
        have hdp := dpa DD hpre 2 rfl
        rw [v1]
        go_simp
        exact hK.out _ _ ⟨Zd vs 2 (undef), (by simp [Zd, v1]), hM0.still HLD HST 2 (by decide) (by decide) hl _ hdp ((KK.out 2 _ _).2 rfl)⟩
      · have hMB := hM0.below HLD hi (by decide) hl
        have hMG := hM0.get HLD hi (by decide) hl
        have v1 : vs 1 = .bool true := (KK.out 1 _ _).1 (hMG 1 (by decide) (hPR 1 rfl))
        have hdp := dpa DD hpre 3 rfl
        rw [v1]
        go_simp
        exact hK.out _ _ ⟨Zd vs 3 (undef), (by simp [Zd, v1]), hM0.still HLD HST 3 (by decide) (by decide) hl _ hdp ((KK.out 3 _ _).2 rfl)⟩
      · have hMB := hM0.below HLD hi (by decide) hl
        have hMG := hM0.get HLD hi (by decide) hl
        have v1 : vs 1 = .bool true := (KK.out 1 _ _).1 (hMG 1 (by decide) (hPR 1 rfl))
        have hdp := dpa DD hpre 4 rfl
        rw [v1]
        go_simp
        exact hK.out _ _ ⟨Zd vs 4 (undef), (by simp [Zd, v1]), hM0.still HLD HST 4 (by decide) (by decide) hl _ hdp ((KK.out 4 _ _).2 rfl)⟩
      · have hMB := hM0.below HLD hi (by decide) hl
        have hMG := hM0.get HLD hi (by decide) hl
        have v1 : vs 1 = .bool true := (KK.out 1 _ _).1 (hMG 1 (by decide) (hPR 1 rfl))
        have hdp := dpa DD hpre 5 rfl
        rw [v1]
        go_simp
        exact hK.out _ _ ⟨Zd vs 5 (undef), (by simp [Zd, v1]), hM0.still HLD HST 5 (by decide) (by decide) hl _ hdp ((KK.out 5 _ _).2 rfl)⟩
      · have hMB := hM0.below HLD hi (by decide) hl
        have hMG := hM0.get HLD hi (by decide) hl
        have v1 : vs 1 = .bool true := (KK.out 1 _ _).1 (hMG 1 (by decide) (hPR 1 rfl))
        have hdp := dpa DD hpre 6 rfl
        rw [v1]
        go_simp
        exact hK.out _ _ ⟨Zd vs 6 (undef), (by simp [Zd, v1]), hM0.still HLD HST 6 (by decide) (by decide) hl _ hdp ((KK.out 6 _ _).2 rfl)⟩
      · have hMB := hM0.below HLD hi (by decide) hl
        have hMG := hM0.get HLD hi (by decide) hl
        have v1 : vs 1 = .bool true := (KK.out 1 _ _).1 (hMG 1 (by decide) (hPR 1 rfl))
        have hdp := dpa DD hpre 7 rfl
        rw [v1]
        go_simp
        exact hK.out _ _ ⟨Zd vs 7 (undef), (by simp [Zd, v1]), hM0.still HLD HST 7 (by decide) (by decide) hl _ hdp ((KK.out 7 _ _).2 rfl)⟩
      · have hMB := hM0.below HLD hi (by decide) hl
        have hMG := hM0.get HLD hi (by decide) hl
        have v1 : vs 1 = .bool true := (KK.out 1 _ _).1 (hMG 1 (by decide) (hPR 1 rfl))
        have hdp := dpa DD hpre 8 rfl
        rw [v1]
        go_simp
        exact hK.out _ _ ⟨Zd vs 8 (undef), (by simp [Zd, v1]), hM0.still HLD HST 8 (by decide) (by decide) hl _ hdp ((KK.out 8 _ _).2 rfl)⟩
      · have hMB := hM0.below HLD hi (by decide) hl
        have hMG := hM0.get HLD hi (by decide) hl
        have v1 : vs 1 = .bool true := (KK.out 1 _ _).1 (hMG 1 (by decide) (hPR 1 rfl))
        have hdp := dpa DD hpre 9 rfl
        rw [v1]
        go_simp
        exact hK.out _ _ ⟨Zd vs 9 (undef), (by simp [Zd, v1]), hM0.still HLD HST 9 (by decide) (by decide) hl _ hdp ((KK.out 9 _ _).2 rfl)⟩
      · have hMB := hM0.below HLD hi (by decide) hl
        have hMG := hM0.get HLD hi (by decide) hl
        have v1 : vs 1 = .bool true := (KK.out 1 _ _).1 (hMG 1 (by decide) (hPR 1 rfl))
        have hdp := dpa DD hpre 10 rfl
        rw [v1]
        go_simp
        exact hK.out _ _ ⟨Zd vs 10 (undef), (by simp [Zd, v1]), hM0.still HLD HST 10 (by decide) (by decide) hl _ hdp ((KK.out 10 _ _).2 rfl)⟩
      · have hMB := hM0.below HLD hi (by decide) hl
        have hMG := hM0.get HLD hi (by decide) hl
        have v10 : vs 10 = undef := (KK.out 10 _ _).1 (hMG 10 (by decide) (hPR 10 rfl))
        have hdp := dpa DD hpre 11 rfl
        go_simp
        exact hK.out _ _ ⟨Zd vs 11 (undef), (by simp [Zd, v10]), hM0.still HLD HST 11 (by decide) (by decide) hl _ hdp ((KK.out 11 _ _).2 rfl)⟩
      · have hMB := hM0.below HLD hi (by decide) hl
        have hMG := hM0.get HLD hi (by decide) hl
        have v10 : vs 10 = undef := (KK.out 10 _ _).1 (hMG 10 (by decide) (hPR 10 rfl))
        have hdp := dpa DD hpre 12 rfl
        go_simp
        exact hK.out _ _ ⟨Zd vs 12 (undef), (by simp [Zd, v10]), hM0.still HLD HST 12 (by decide) (by decide) hl _ hdp ((KK.out 12 _ _).2 rfl)⟩
      · have hMB := hM0.below HLD hi (by decide) hl
        have hMG := hM0.get HLD hi (by decide) hl
        have v10 : vs 10 = undef := (KK.out 10 _ _).1 (hMG 10 (by decide) (hPR 10 rfl))
        have hdp := dpa DD hpre 13 rfl
        go_simp
        exact hK.out _ _ ⟨Zd vs 13 (undef), (by simp [Zd, v10]), hM0.still HLD HST 13 (by decide) (by decide) hl _ hdp ((KK.out 13 _ _).2 rfl)⟩
      · have hMB := hM0.below HLD hi (by decide) hl
        have hMG := hM0.get HLD hi (by decide) hl
        have v10 : vs 10 = undef := (KK.out 10 _ _).1 (hMG 10 (by decide) (hPR 10 rfl))
        have hdp := dpa DD hpre 14 rfl
        go_simp
        exact hK.out _ _ ⟨Zd vs 14 (undef), (by simp [Zd, v10]), hM0.still HLD HST 14 (by decide) (by decide) hl _ hdp ((KK.out 14 _ _).2 rfl)⟩
      · have hMB := hM0.below HLD hi (by decide) hl
        have hMG := hM0.get HLD hi (by decide) hl
        have v10 : vs 10 = undef := (KK.out 10 _ _).1 (hMG 10 (by decide) (hPR 10 rfl))
        have hdp := dpa DD hpre 15 rfl
        go_simp
        exact hK.out _ _ ⟨Zd vs 15 (undef), (by simp [Zd, v10]), hM0.still HLD HST 15 (by decide) (by decide) hl _ hdp ((KK.out 15 _ _).2 rfl)⟩
      · have hMB := hM0.below HLD hi (by decide) hl
        have hMG := hM0.get HLD hi (by decide) hl
        have v10 : vs 10 = undef := (KK.out 10 _ _).1 (hMG 10 (by decide) (hPR 10 rfl))
        have hdp := dpa DD hpre 16 rfl
        go_simp
        exact hK.out _ _ ⟨Zd vs 16 (undef), (by simp [Zd, v10]), hM0.still HLD HST 16 (by decide) (by decide) hl _ hdp ((KK.out 16 _ _).2 rfl)⟩
      · have hMB := hM0.below HLD hi (by decide) hl
        have hMG := hM0.get HLD hi (by decide) hl
        have v10 : vs 10 = undef := (KK.out 10 _ _).1 (hMG 10 (by decide) (hPR 10 rfl))
        have hdp := dpa DD hpre 17 rfl
        go_simp
        exact hK.out _ _ ⟨Zd vs 17 (undef), (by simp [Zd, v10]), hM0.still HLD HST 17 (by decide) (by decide) hl _ hdp ((KK.out 17 _ _).2 rfl)⟩
      · have hMB := hM0.below HLD hi (by decide) hl
        have hMG := hM0.get HLD hi (by decide) hl
        have v10 : vs 10 = undef := (KK.out 10 _ _).1 (hMG 10 (by decide) (hPR 10 rfl))
        have hdp := dpa DD hpre 18 rfl
        go_simp
        exact hK.out _ _ ⟨Zd vs 18 (undef), (by simp [Zd, v10]), hM0.still HLD HST 18 (by decide) (by decide) hl _ hdp ((KK.out 18 _ _).2 rfl)⟩
      · have hMB := hM0.below HLD hi (by decide) hl
        have hMG := hM0.get HLD hi (by decide) hl
        have v10 : vs 10 = undef := (KK.out 10 _ _).1 (hMG 10 (by decide) (hPR 10 rfl))
        have hdp := dpa DD hpre 19 rfl
        go_simp
        exact hK.out _ _ ⟨Zd vs 19 (undef), (by simp [Zd, v10]), hM0.still HLD HST 19 (by decide) (by decide) hl _ hdp ((KK.out 19 _ _).2 rfl)⟩
      · have hMB := hM0.below HLD hi (by decide) hl
        have hMG := hM0.get HLD hi (by decide) hl
        have v1 : vs 1 = .bool true := (KK.out 1 _ _).1 (hMG 1 (by decide) (hPR 1 rfl))
        have hdp := dpa DD hpre 20 rfl
        rw [v1]
        go_simp
        exact hK.out _ _ ⟨Zd vs 20 (undef), (by simp [Zd, v1]), hM0.still HLD HST 20 (by decide) (by decide) hl _ hdp ((KK.out 20 _ _).2 rfl)⟩
      ·
       have hMB := hM0.below HLD hi (by decide) hl
       have hMG := hM0.get HLD hi (by decide) hl
       have v1 : vs 1 = .bool true := (KK.out 1 _ _).1 (hMG 1 (by decide) (hPR 1 rfl))
       have v20 : vs 20 = undef := (KK.out 20 _ _).1 (hMG 20 (by decide) (hPR 20 rfl))
       have hdp := dpa DD hpre 21 rfl
       have hno : ∀ j, 21 < j → l.getD j false = true → 21 ∈ dep j := by
        intro j hj hj2
        have hjn : j < 23 := by have := Zap hj2; rw [hM0.size] at this; exact this
        obtain rfl : j = 22 := by omega
        rw [DD.out]; simp
       rw [v1]
       go_simp
       exact hK.out _ _ ⟨Zd vs 21 (.bool true), by simp [Zd, v1, v20], hM0.last HLD (by decide) hl hno _ hdp ⟨rfl, rfl⟩⟩
      have hdp := dpa DD hpre 22 rfl
      go_simp
      exact hK.out _ _ ⟨Zd vs 22 (vs 21), by simp [Zd], hM0.post 22 (by decide) (by decide) (hPR 21 rfl) hdp⟩
     rintro l a W24 hall ⟨vs24, rfl, hM0⟩
     obtain ⟨W241, hMB, hMG, hMR, hMA⟩ := hM0.fin (by decide) hall
     have HBW := Za hMB
     have v22 := hMA 22 (by decide) (by decide)
     rw [hMR.1] at v22
     rw [v22]
     have hWe := hMR.2
     rw [hWe]
     clear KK DD ST HLD HST hMG v22 hWe hMR hMA hMB hall hM0 st z3 w0 w1 w2 w3 w4
     have hg40 := HGN.out
     go_wp2_with fail
     go_roundg (GL.length - (i + 1))
     case measure => omega
     case rel => exact ⟨i + 1, by omega, by omega, by go_num, by rw [HFIN.out], step HBD.out HBW.out⟩
    | false =>
     by_cases hrr : (r : Int) = xg.row + xg.rows - 1
     ·
      obtain ⟨bq, hbq⟩ : ∃ b, (hc9 == (ls.length : Int)) = b := ⟨_, rfl⟩
      have hdq : decide (hc9 = (ls.length : Int)) = bq := by
       rw [← hbq]
       by_cases h : hc9 = (ls.length : Int)
       · rw [decide_eq_true h, beq_iff_eq.2 h]
       rw [decide_eq_false h, beq_eq_false_iff_ne.2 h]
      have HFIN : Hid ((zr == 0 || ((Qf GL LN).take (i + 1)).any nb) = bq) := by show _ = _; rw [HST.out, decide_eq_true hrr, hdq]; simp
      have hb9 : ((r : Int) == xg.row + xg.rows - 1) = true := beq_iff_eq.2 hrr
      clear hrr hdq
      obtain ⟨KF, hKF⟩ : ∃ f : Nat → Value → World → Prop, f = (fun j v W => match j with | 0 => v = .bool false | 1 => v = .bool false | 2 => v = .int .i64 ↑r | 3 => v = .pointer (some ⟨wr.heap.size, 0, none⟩) | 4 => v = .int .i64 xg.row | 5 => v = .pointer (some ⟨wr.heap.size, 2, none⟩) | 6 => v = .int .i64 xg.rows | 7 => v = .int .i64 (xg.row + xg.rows) | 8 => v = .int .i64 (xg.row + xg.rows - 1) | 9 => v = .bool true | 10 => v = .bool true | 11 => v = .slice (some ⟨bR, oR, none⟩) R.length cR | 12 => v = .agg #[.int .i64 xg.row, .int .i64 xg.col, .int .i64 xg.rows, .int .i64 xg.cols, .int .i64 xg.inn] | 13 => v = .int .i64 hc9 | 14 => v = .slice (some ⟨bl, ol, none⟩) LN.length cL | 15 => v = .int .i64 ↑i | 16 => v = .pointer (some ⟨bl, ol + i, none⟩) | 17 => v = .slice A2 ls.length c2 | 18 => v = .int .i64 (ls.length : Int) | 19 => v = .bool bq | 20 => v = .bool bq | _ => True) := ⟨_, rfl⟩
      have KK := Za (kf hKF)
      have HST : Yw KF := by
       rw [hKF]
       intro j v W W9 h hb
       by_cases hjn : j < 23
       ·
        obtain rfl|rfl|rfl|rfl|rfl|rfl|rfl|rfl|rfl|rfl|rfl|rfl|rfl|rfl|rfl|rfl|rfl|rfl|rfl|rfl|rfl|rfl|rfl : j = 0 ∨ j = 1 ∨ j = 2 ∨ j = 3 ∨ j = 4 ∨ j = 5 ∨ j = 6 ∨ j = 7 ∨ j = 8 ∨ j = 9 ∨ j = 10 ∨ j = 11 ∨ j = 12 ∨ j = 13 ∨ j = 14 ∨ j = 15 ∨ j = 16 ∨ j = 17 ∨ j = 18 ∨ j = 19 ∨ j = 20 ∨ j = 21 ∨ j = 22 := by omega
        · exact h
        · exact h
        · exact h
        · exact h
        · exact h
        · exact h
        · exact h
        · exact h
        · exact h
        · exact h
        · exact h
        · exact h
        · exact h
        · exact h
        · exact h
        · exact h
        · exact h
        · exact h
        · exact h
        · exact h
        · exact h
        · exact trivial
        exact trivial
       obtain ⟨k, rfl⟩ : ∃ k, j = k + 23 := ⟨j - 23, by omega⟩
       exact h
      clear hKF
      obtain ⟨dep, hdep⟩ : ∃ f : Nat → List Nat, f = (fun j => match j with | 1 => [0] | 2 => [1] | 3 => [1] | 4 => [3, 1] | 5 => [1] | 6 => [5, 1] | 7 => [4, 6, 1] | 8 => [7, 1] | 9 => [2, 8, 1] | 10 => [9, 1] | 11 => [10] | 12 => [10] | 13 => [11, 12, 10] | 14 => [10] | 15 => [10] | 16 => [14, 15, 10] | 17 => [16, 10] | 18 => [17, 10] | 19 => [13, 18, 10] | 20 => [10, 19, 1] | 21 => [1, 20] | 22 => [21, 13] | _ => []) := ⟨_, rfl⟩
      have DD := Za hdep
      clear hdep
      have HLD : Yt 23 21 dep := Zbo DD.out (by decide)
      obtain ⟨st, hst⟩ : ∃ f : Nat → Value, f = (fun j => match j with | 0 => u103 | 1 => u104 | 2 => u105 | 3 => u106 | 4 => u107 | 5 => u108 | 6 => u109 | 7 => u110 | 8 => u111 | 9 => u112 | 10 => u113 | 11 => u114 | 12 => u115 | 13 => u116 | 14 => u117 | 15 => u118 | 16 => u119 | 17 => u120 | 18 => u121 | 19 => u122 | 20 => u123 | 21 => u124 | 22 => .bool false | _ => undef) := ⟨_, rfl⟩
      have ST := Za hst
      clear hst
      refine Qe (fun l a W => ∃ vs : Nat → Value, a = ⟨List.toArray (.slice A n c :: Zb :: u2 :: .pointer (some ⟨W1.heap.size, 0, none⟩) :: .int .i64 wd :: .slice (some ⟨bR, oR, none⟩) R.length cR :: .slice (some ⟨bl, ol, none⟩) LN.length cL :: .pointer (some ⟨W9.heap.size, 0, none⟩) :: .int .i64 ↑GL.length :: .int .i64 ↑r :: vs 22 :: .int .i64 ↑i :: .pointer (some ⟨wr.heap.size, 0, none⟩) :: .slice A n c :: .int .i64 ↑n :: .bool false :: .tuple #[(Ya Ac t kc Ar kr), .int .i64 wd] :: .slice A n c :: .tuple #[(Ya Ac t kc Ar kr), .int .i64 wd] :: (Ya Ac t kc Ar kr) :: .int .i64 wd :: (Ya Ac t kc Ar kr) :: .int .i64 wd :: .slice (some ⟨bR, oR, none⟩) R.length cR :: (Ya Ac t kc Ar kr) :: .int .i64 wd :: .slice (some ⟨bl, ol, none⟩) LN.length cL :: .slice (some ⟨bR, oR, none⟩) R.length cR :: (Ya Ac t kc Ar kr) :: .int .i64 wd :: .slice AM R.length cM :: .bool true :: .bool false :: .bool false :: .slice (some ⟨bl, ol, none⟩) LN.length cL :: (Ya Ac t kc Ar kr) :: .int .i64 wd :: .slice AN LN.length cN :: .bool true :: .bool false :: .bool false :: .slice (some ⟨bR, oR, none⟩) R.length cR :: .int .i64 ↑R.length :: .bool false :: Zb :: Zb :: Zb :: Zb :: Zb :: Zb :: Zb :: Zb :: Zb :: Zb :: Zb :: Zb :: Zb :: Zb :: (Ya Ac t kc Ar kr) :: .agg #[.int .i64 ↑t.rows.length, .int .i64 ↑m, .slice (some ⟨bG, oG, none⟩) GL.length gc] :: .int .i64 ↑GL.length :: .pointer (some ⟨W9.heap.size, 2, none⟩) :: .slice (some ⟨bG, oG, none⟩) GL.length gc :: .int .i64 ↑GL.length :: .bool false :: u65 :: u66 :: u67 :: u68 :: u69 :: u70 :: u71 :: u72 :: u73 :: u74 :: u75 :: u76 :: u77 :: u78 :: u79 :: .int .i64 ↑r :: .slice (some ⟨bR, oR, none⟩) R.length cR :: .int .i64 ↑R.length :: .bool true :: u84 :: u85 :: .slice (some ⟨bR, oR, none⟩) R.length cR :: .int .i64 ↑r :: .pointer (some ⟨bR, oR + r, none⟩) :: .int .i64 zr :: .bool (zr == 0) :: .int .i64 ↑i :: .pointer (some ⟨W9.heap.size, 2, none⟩) :: .slice (some ⟨bG, oG, none⟩) GL.length gc :: .int .i64 ↑GL.length :: .bool true :: u96 :: u97 :: .pointer (some ⟨W9.heap.size, 2, none⟩) :: .slice (some ⟨bG, oG, none⟩) GL.length gc :: .int .i64 ↑i :: .pointer (some ⟨bG, oG + i * 5, none⟩) :: .agg #[.int .i64 xg.row, .int .i64 xg.col, .int .i64 xg.rows, .int .i64 xg.cols, .int .i64 xg.inn] :: vs 0 :: vs 1 :: vs 2 :: vs 3 :: vs 4 :: vs 5 :: vs 6 :: vs 7 :: vs 8 :: vs 9 :: vs 10 :: vs 11 :: vs 12 :: vs 13 :: vs 14 :: vs 15 :: vs 16 :: vs 17 :: vs 18 :: vs 19 :: vs 20 :: vs 21 :: u125 :: u126 :: Zb :: Zb :: Zb :: Zb :: Zb :: Zb :: []), []⟩ ∧ Yp KF 23 21 dep (V7.drew) (fun W v W2 => v = .bool bq ∧ W2 = W) st l vs W) (by kernel_rfl) ?top ?start ?step ?fin
      case top => exact Zae (by kernel_rfl)
      case start => exact ⟨st, by rw [ST.out]; first | done | rfl, Yp.start⟩
      case step =>
       rintro l a W i o ho hl hpre hsz ⟨vs, rfl, hM0⟩ K hK
       have hi : i < 23 := (Array.getElem?_eq_some_iff.1 ho).1
       obtain rfl|rfl|rfl|rfl|rfl|rfl|rfl|rfl|rfl|rfl|rfl|rfl|rfl|rfl|rfl|rfl|rfl|rfl|rfl|rfl|rfl|rfl|rfl := Zvu hi
       all_goals
        simp only [List.getElem?_toArray, List.getElem?_cons_zero, List.getElem?_cons_succ, Option.some.injEq] at ho
        subst ho
        have hPR := Zce hpre
       · have hMB := hM0.below HLD hi (by decide) hl
         have hMG := hM0.get HLD hi (by decide) hl
         have v22 : vs 22 = .bool false := (hM0.getStale HLD hi (by decide) hl 22 (by decide)).trans (congrFun ST.out 22)
         have hdp := dpa DD hpre 0 rfl
         rw [v22]
         go_simp
         exact hK.out _ _ ⟨Zd vs 0 (.bool false), (by simp [Zd, v22]), hM0.still HLD HST 0 (by decide) (by decide) hl _ hdp ((KK.out 0 _ _).2 rfl)⟩
       · have hMB := hM0.below HLD hi (by decide) hl
         have hMG := hM0.get HLD hi (by decide) hl
         have v0 : vs 0 = .bool false := (KK.out 0 _ _).1 (hMG 0 (by decide) (hPR 0 rfl))
         have hdp := dpa DD hpre 1 rfl
         rw [v0]
         go_simp
         exact hK.out _ _ ⟨Zd vs 1 (.bool false), (by simp [Zd, v0]), hM0.still HLD HST 1 (by decide) (by decide) hl _ hdp ((KK.out 1 _ _).2 rfl)⟩
       · have hMB := hM0.below HLD hi (by decide) hl
         have hMG := hM0.get HLD hi (by decide) hl
         have v1 : vs 1 = .bool false := (KK.out 1 _ _).1 (hMG 1 (by decide) (hPR 1 rfl))
         have hdp := dpa DD hpre 2 rfl
         rw [v1]
         go_simp
         exact hK.out _ _ ⟨Zd vs 2 (.int .i64 ↑r), (by simp [Zd, v1]), hM0.still HLD HST 2 (by decide) (by decide) hl _ hdp ((KK.out 2 _ _).2 rfl)⟩
       · have hMB := hM0.below HLD hi (by decide) hl
         have hMG := hM0.get HLD hi (by decide) hl
         have v1 : vs 1 = .bool false := (KK.out 1 _ _).1 (hMG 1 (by decide) (hPR 1 rfl))
         have hdp := dpa DD hpre 3 rfl
         rw [v1]
         go_simp
         exact hK.out _ _ ⟨Zd vs 3 (.pointer (some ⟨wr.heap.size, 0, none⟩)), (by simp [Zd, v1]), hM0.still HLD HST 3 (by decide) (by decide) hl _ hdp ((KK.out 3 _ _).2 rfl)⟩
       · have hMB := hM0.below HLD hi (by decide) hl
         have hMG := hM0.get HLD hi (by decide) hl
         have v3 : vs 3 = .pointer (some ⟨wr.heap.size, 0, none⟩) := (KK.out 3 _ _).1 (hMG 3 (by decide) (hPR 3 rfl))
         have v1 : vs 1 = .bool false := (KK.out 1 _ _).1 (hMG 1 (by decide) (hPR 1 rfl))
         have hdp := dpa DD hpre 4 rfl
         have x0 := Zg hMB w0
         rw [v3, v1]
         go_simp
         exact hK.out _ _ ⟨Zd vs 4 (.int .i64 xg.row), (by simp [Zd, v3, v1]), hM0.still HLD HST 4 (by decide) (by decide) hl _ hdp ((KK.out 4 _ _).2 rfl)⟩
       · have hMB := hM0.below HLD hi (by decide) hl
         have hMG := hM0.get HLD hi (by decide) hl
         have v1 : vs 1 = .bool false := (KK.out 1 _ _).1 (hMG 1 (by decide) (hPR 1 rfl))
         have hdp := dpa DD hpre 5 rfl
         rw [v1]
         go_simp
         exact hK.out _ _ ⟨Zd vs 5 (.pointer (some ⟨wr.heap.size, 2, none⟩)), (by simp [Zd, v1]), hM0.still HLD HST 5 (by decide) (by decide) hl _ hdp ((KK.out 5 _ _).2 rfl)⟩
       · have hMB := hM0.below HLD hi (by decide) hl
         have hMG := hM0.get HLD hi (by decide) hl
         have v5 : vs 5 = .pointer (some ⟨wr.heap.size, 2, none⟩) := (KK.out 5 _ _).1 (hMG 5 (by decide) (hPR 5 rfl))
         have v1 : vs 1 = .bool false := (KK.out 1 _ _).1 (hMG 1 (by decide) (hPR 1 rfl))
         have hdp := dpa DD hpre 6 rfl
         have x0 := Zg hMB w2
         rw [v5, v1]
         go_simp
         exact hK.out _ _ ⟨Zd vs 6 (.int .i64 xg.rows), (by simp [Zd, v5, v1]), hM0.still HLD HST 6 (by decide) (by decide) hl _ hdp ((KK.out 6 _ _).2 rfl)⟩
       · have hMB := hM0.below HLD hi (by decide) hl
         have hMG := hM0.get HLD hi (by decide) hl
         have v4 : vs 4 = .int .i64 xg.row := (KK.out 4 _ _).1 (hMG 4 (by decide) (hPR 4 rfl))
         have v6 : vs 6 = .int .i64 xg.rows := (KK.out 6 _ _).1 (hMG 6 (by decide) (hPR 6 rfl))
         have v1 : vs 1 = .bool false := (KK.out 1 _ _).1 (hMG 1 (by decide) (hPR 1 rfl))
         have hdp := dpa DD hpre 7 rfl
         rw [v4, v6, v1]
         go_simp
         exact hK.out _ _ ⟨Zd vs 7 (.int .i64 (xg.row + xg.rows)), (by simp [Zd, v4, v6, v1]), hM0.still HLD HST 7 (by decide) (by decide) hl _ hdp ((KK.out 7 _ _).2 rfl)⟩
       · have hMB := hM0.below HLD hi (by decide) hl
         have hMG := hM0.get HLD hi (by decide) hl
         have v7 : vs 7 = .int .i64 (xg.row + xg.rows) := (KK.out 7 _ _).1 (hMG 7 (by decide) (hPR 7 rfl))
         have v1 : vs 1 = .bool false := (KK.out 1 _ _).1 (hMG 1 (by decide) (hPR 1 rfl))
         have hdp := dpa DD hpre 8 rfl
         rw [v7, v1]
         go_simp
         exact hK.out _ _ ⟨Zd vs 8 (.int .i64 (xg.row + xg.rows - 1)), (by simp [Zd, v7, v1]), hM0.still HLD HST 8 (by decide) (by decide) hl _ hdp ((KK.out 8 _ _).2 rfl)⟩
       · have hMB := hM0.below HLD hi (by decide) hl
         have hMG := hM0.get HLD hi (by decide) hl
         have v2 : vs 2 = .int .i64 ↑r := (KK.out 2 _ _).1 (hMG 2 (by decide) (hPR 2 rfl))
         have v8 : vs 8 = .int .i64 (xg.row + xg.rows - 1) := (KK.out 8 _ _).1 (hMG 8 (by decide) (hPR 8 rfl))
         have v1 : vs 1 = .bool false := (KK.out 1 _ _).1 (hMG 1 (by decide) (hPR 1 rfl))
         have hdp := dpa DD hpre 9 rfl
         rw [v2, v8, v1]
         go_simp
         exact hK.out _ _ ⟨Zd vs 9 (.bool true), (by simp [Zd, v2, v8, v1]), hM0.still HLD HST 9 (by decide) (by decide) hl _ hdp ((KK.out 9 _ _).2 rfl)⟩
       · have hMB := hM0.below HLD hi (by decide) hl
         have hMG := hM0.get HLD hi (by decide) hl
         have v9 : vs 9 = .bool true := (KK.out 9 _ _).1 (hMG 9 (by decide) (hPR 9 rfl))
         have v1 : vs 1 = .bool false := (KK.out 1 _ _).1 (hMG 1 (by decide) (hPR 1 rfl))
         have hdp := dpa DD hpre 10 rfl
         rw [v9, v1]
         go_simp
         exact hK.out _ _ ⟨Zd vs 10 (.bool true), (by simp [Zd, v9, v1]), hM0.still HLD HST 10 (by decide) (by decide) hl _ hdp ((KK.out 10 _ _).2 rfl)⟩
       · have hMB := hM0.below HLD hi (by decide) hl
         have hMG := hM0.get HLD hi (by decide) hl
         have v10 : vs 10 = .bool true := (KK.out 10 _ _).1 (hMG 10 (by decide) (hPR 10 rfl))
         have hdp := dpa DD hpre 11 rfl
         rw [v10]
         go_simp
         exact hK.out _ _ ⟨Zd vs 11 (.slice (some ⟨bR, oR, none⟩) R.length cR), (by simp [Zd, v10]), hM0.still HLD HST 11 (by decide) (by decide) hl _ hdp ((KK.out 11 _ _).2 rfl)⟩
       ·
        have hMB := hM0.below HLD hi (by decide) hl
        have hMG := hM0.get HLD hi (by decide) hl
        have v10 : vs 10 = .bool true := (KK.out 10 _ _).1 (hMG 10 (by decide) (hPR 10 rfl))
        have hdp := dpa DD hpre 12 rfl
        have x0 := Zg hMB w0
        have x1 := Zg hMB w1
        have x2 := Zg hMB w2
        have x3 := Zg hMB w3
        have x4 := Zg hMB w4
        rw [v10]
        go_simp
        exact hK.out _ _ ⟨Zd vs 12 (.agg #[.int .i64 xg.row, .int .i64 xg.col, .int .i64 xg.rows, .int .i64 xg.cols, .int .i64 xg.inn]), (by simp [Zd, v10]), hM0.still HLD HST 12 (by decide) (by decide) hl _ hdp ((KK.out 12 _ _).2 rfl)⟩
       ·
        have hMB := hM0.below HLD hi (by decide) hl
        have hMG := hM0.get HLD hi (by decide) hl
        have v11 : vs 11 = .slice (some ⟨bR, oR, none⟩) R.length cR := (KK.out 11 _ _).1 (hMG 11 (by decide) (hPR 11 rfl))
        have v12 : vs 12 = .agg #[.int .i64 xg.row, .int .i64 xg.col, .int .i64 xg.rows, .int .i64 xg.cols, .int .i64 xg.inn] := (KK.out 12 _ _).1 (hMG 12 (by decide) (hPR 12 rfl))
        have v10 : vs 10 = .bool true := (KK.out 10 _ _).1 (hMG 10 (by decide) (hPR 10 rfl))
        have hdp := dpa DD hpre 13 rfl
        rw [v11, v12, v10]
        go_simp
        refine (HHC.out W (step HBD.out hMB)).mono ?_
        rintro e5 W5 ⟨rfl, hb5⟩
        exact hK.out _ _ ⟨Zd vs 13 (.int .i64 hc9), (by simp [Zd, v11, v12, v10]), hM0.next HLD HST 13 (by decide) (by decide) hl _ hdp hb5 ((KK.out 13 _ _).2 rfl)⟩
       · have hMB := hM0.below HLD hi (by decide) hl
         have hMG := hM0.get HLD hi (by decide) hl
         have v10 : vs 10 = .bool true := (KK.out 10 _ _).1 (hMG 10 (by decide) (hPR 10 rfl))
         have hdp := dpa DD hpre 14 rfl
         rw [v10]
         go_simp
         exact hK.out _ _ ⟨Zd vs 14 (.slice (some ⟨bl, ol, none⟩) LN.length cL), (by simp [Zd, v10]), hM0.still HLD HST 14 (by decide) (by decide) hl _ hdp ((KK.out 14 _ _).2 rfl)⟩
       · have hMB := hM0.below HLD hi (by decide) hl
         have hMG := hM0.get HLD hi (by decide) hl
         have v10 : vs 10 = .bool true := (KK.out 10 _ _).1 (hMG 10 (by decide) (hPR 10 rfl))
         have hdp := dpa DD hpre 15 rfl
         rw [v10]
         go_simp
         exact hK.out _ _ ⟨Zd vs 15 (.int .i64 ↑i), (by simp [Zd, v10]), hM0.still HLD HST 15 (by decide) (by decide) hl _ hdp ((KK.out 15 _ _).2 rfl)⟩
       · have hMB := hM0.below HLD hi (by decide) hl
         have hMG := hM0.get HLD hi (by decide) hl
         have v14 : vs 14 = .slice (some ⟨bl, ol, none⟩) LN.length cL := (KK.out 14 _ _).1 (hMG 14 (by decide) (hPR 14 rfl))
         have v15 : vs 15 = .int .i64 ↑i := (KK.out 15 _ _).1 (hMG 15 (by decide) (hPR 15 rfl))
         have v10 : vs 10 = .bool true := (KK.out 10 _ _).1 (hMG 10 (by decide) (hPR 10 rfl))
         have hdp := dpa DD hpre 16 rfl
         rw [v14, v15, v10]
         go_simp
         exact hK.out _ _ ⟨Zd vs 16 (.pointer (some ⟨bl, ol + i, none⟩)), (by simp [Zd, v14, v15, v10]), hM0.still HLD HST 16 (by decide) (by decide) hl _ hdp ((KK.out 16 _ _).2 rfl)⟩
       · have hMB := hM0.below HLD hi (by decide) hl
         have hMG := hM0.get HLD hi (by decide) hl
         have v16 : vs 16 = .pointer (some ⟨bl, ol + i, none⟩) := (KK.out 16 _ _).1 (hMG 16 (by decide) (hPR 16 rfl))
         have v10 : vs 10 = .bool true := (KK.out 10 _ _).1 (hMG 10 (by decide) (hPR 10 rfl))
         have hdp := dpa DD hpre 17 rfl
         have x0 := Zg hMB z3
         rw [v16, v10]
         go_simp
         exact hK.out _ _ ⟨Zd vs 17 (.slice A2 ls.length c2), (by simp [Zd, v16, v10]), hM0.still HLD HST 17 (by decide) (by decide) hl _ hdp ((KK.out 17 _ _).2 rfl)⟩
       · have hMB := hM0.below HLD hi (by decide) hl
         have hMG := hM0.get HLD hi (by decide) hl
         have v17 : vs 17 = .slice A2 ls.length c2 := (KK.out 17 _ _).1 (hMG 17 (by decide) (hPR 17 rfl))
         have v10 : vs 10 = .bool true := (KK.out 10 _ _).1 (hMG 10 (by decide) (hPR 10 rfl))
         have hdp := dpa DD hpre 18 rfl
         rw [v17, v10]
         go_simp
         exact hK.out _ _ ⟨Zd vs 18 (.int .i64 (ls.length : Int)), (by simp [Zd, v17, v10]), hM0.still HLD HST 18 (by decide) (by decide) hl _ hdp ((KK.out 18 _ _).2 rfl)⟩
       · have hMB := hM0.below HLD hi (by decide) hl
         have hMG := hM0.get HLD hi (by decide) hl
         have v13 : vs 13 = .int .i64 hc9 := (KK.out 13 _ _).1 (hMG 13 (by decide) (hPR 13 rfl))
         have v18 : vs 18 = .int .i64 (ls.length : Int) := (KK.out 18 _ _).1 (hMG 18 (by decide) (hPR 18 rfl))
         have v10 : vs 10 = .bool true := (KK.out 10 _ _).1 (hMG 10 (by decide) (hPR 10 rfl))
         have hdp := dpa DD hpre 19 rfl
         rw [v13, v18, v10]
         go_simp
         exact hK.out _ _ ⟨Zd vs 19 (.bool bq), (by simp [Zd, v13, v18, v10]), hM0.still HLD HST 19 (by decide) (by decide) hl _ hdp ((KK.out 19 _ _).2 rfl)⟩
       · have hMB := hM0.below HLD hi (by decide) hl
         have hMG := hM0.get HLD hi (by decide) hl
         have v10 : vs 10 = .bool true := (KK.out 10 _ _).1 (hMG 10 (by decide) (hPR 10 rfl))
         have v19 : vs 19 = .bool bq := (KK.out 19 _ _).1 (hMG 19 (by decide) (hPR 19 rfl))
         have v1 : vs 1 = .bool false := (KK.out 1 _ _).1 (hMG 1 (by decide) (hPR 1 rfl))
         have hdp := dpa DD hpre 20 rfl
         rw [v10, v19, v1]
         go_simp
         exact hK.out _ _ ⟨Zd vs 20 (.bool bq), (by simp [Zd, v10, v19, v1]), hM0.still HLD HST 20 (by decide) (by decide) hl _ hdp ((KK.out 20 _ _).2 rfl)⟩
       ·
        have hMB := hM0.below HLD hi (by decide) hl
        have hMG := hM0.get HLD hi (by decide) hl
        have v1 : vs 1 = .bool false := (KK.out 1 _ _).1 (hMG 1 (by decide) (hPR 1 rfl))
        have v20 : vs 20 = .bool bq := (KK.out 20 _ _).1 (hMG 20 (by decide) (hPR 20 rfl))
        have hdp := dpa DD hpre 21 rfl
        have hno : ∀ j, 21 < j → l.getD j false = true → 21 ∈ dep j := by
         intro j hj hj2
         have hjn : j < 23 := by have := Zap hj2; rw [hM0.size] at this; exact this
         obtain rfl : j = 22 := by omega
         rw [DD.out]; simp
        rw [v1, v20]
        go_simp
        exact hK.out _ _ ⟨Zd vs 21 (.bool bq), by simp [Zd, v1, v20], hM0.last HLD (by decide) hl hno _ hdp ⟨rfl, rfl⟩⟩
       have hdp := dpa DD hpre 22 rfl
       go_simp
       exact hK.out _ _ ⟨Zd vs 22 (vs 21), by simp [Zd], hM0.post 22 (by decide) (by decide) (hPR 21 rfl) hdp⟩
      rintro l a W24 hall ⟨vs24, rfl, hM0⟩
      obtain ⟨W241, hMB, hMG, hMR, hMA⟩ := hM0.fin (by decide) hall
      have HBW := Za hMB
      have v22 := hMA 22 (by decide) (by decide)
      rw [hMR.1] at v22
      rw [v22]
      have hWe := hMR.2
      rw [hWe]
      clear KK DD ST HLD HST hMG v22 hWe hMR hMA hMB hall hM0 st z3 w0 w1 w2 w3 w4
      have hg40 := HGN.out
      go_wp2_with fail
      go_roundg (GL.length - (i + 1))
      case measure => omega
      case rel => exact ⟨i + 1, by omega, by omega, by go_num, by rw [HFIN.out], step HBD.out HBW.out⟩
     have HFIN : Hid ((zr == 0 || ((Qf GL LN).take (i + 1)).any nb) = false) := by show _ = _; rw [HST.out, decide_eq_false hrr]; rfl
     have hb9 : ((r : Int) == xg.row + xg.rows - 1) = false := beq_eq_false_iff_ne.2 hrr
     clear hrr
     obtain ⟨KF, hKF⟩ : ∃ f : Nat → Value → World → Prop, f = (fun j v W => match j with | 0 => v = .bool false | 1 => v = .bool false | 2 => v = .int .i64 ↑r | 3 => v = .pointer (some ⟨wr.heap.size, 0, none⟩) | 4 => v = .int .i64 xg.row | 5 => v = .pointer (some ⟨wr.heap.size, 2, none⟩) | 6 => v = .int .i64 xg.rows | 7 => v = .int .i64 (xg.row + xg.rows) | 8 => v = .int .i64 (xg.row + xg.rows - 1) | 9 => v = .bool false | 10 => v = .bool false | 11 => v = undef | 12 => v = undef | 13 => v = undef | 14 => v = undef | 15 => v = undef | 16 => v = undef | 17 => v = undef | 18 => v = undef | 19 => v = undef | 20 => v = .bool false | _ => True) := ⟨_, rfl⟩
     have KK := Za (kf hKF)
     have HST : Yw KF := by
      rw [hKF]
      intro j v W W9 h hb
      by_cases hjn : j < 23
      ·
       obtain rfl|rfl|rfl|rfl|rfl|rfl|rfl|rfl|rfl|rfl|rfl|rfl|rfl|rfl|rfl|rfl|rfl|rfl|rfl|rfl|rfl|rfl|rfl : j = 0 ∨ j = 1 ∨ j = 2 ∨ j = 3 ∨ j = 4 ∨ j = 5 ∨ j = 6 ∨ j = 7 ∨ j = 8 ∨ j = 9 ∨ j = 10 ∨ j = 11 ∨ j = 12 ∨ j = 13 ∨ j = 14 ∨ j = 15 ∨ j = 16 ∨ j = 17 ∨ j = 18 ∨ j = 19 ∨ j = 20 ∨ j = 21 ∨ j = 22 := by omega
       · exact h
       · exact h
       · exact h
       · exact h
       · exact h
       · exact h
       · exact h
       · exact h
       · exact h
       · exact h
       · exact h
       · exact h
       · exact h
       · exact h
       · exact h
       · exact h
       · exact h
       · exact h
       · exact h
       · exact h
       · exact h
       · exact trivial
       exact trivial
      obtain ⟨k, rfl⟩ : ∃ k, j = k + 23 := ⟨j - 23, by omega⟩
      exact h
     clear hKF
     obtain ⟨dep, hdep⟩ : ∃ f : Nat → List Nat, f = (fun j => match j with | 1 => [0] | 2 => [1] | 3 => [1] | 4 => [3, 1] | 5 => [1] | 6 => [5, 1] | 7 => [4, 6, 1] | 8 => [7, 1] | 9 => [2, 8, 1] | 10 => [9, 1] | 11 => [10] | 12 => [10] | 13 => [11, 12, 10] | 14 => [10] | 15 => [10] | 16 => [14, 15, 10] | 17 => [16, 10] | 18 => [17, 10] | 19 => [13, 18, 10] | 20 => [10, 19, 1] | 21 => [1, 20] | 22 => [21, 13] | _ => []) := ⟨_, rfl⟩
     have DD := Za hdep
     clear hdep
     have HLD : Yt 23 21 dep := Zbo DD.out (by decide)
     obtain ⟨st, hst⟩ : ∃ f : Nat → Value, f = (fun j => match j with | 0 => u103 | 1 => u104 | 2 => u105 | 3 => u106 | 4 => u107 | 5 => u108 | 6 => u109 | 7 => u110 | 8 => u111 | 9 => u112 | 10 => u113 | 11 => u114 | 12 => u115 | 13 => u116 | 14 => u117 | 15 => u118 | 16 => u119 | 17 => u120 | 18 => u121 | 19 => u122 | 20 => u123 | 21 => u124 | 22 => .bool false | _ => undef) := ⟨_, rfl⟩
     have ST := Za hst
     clear hst
     refine Qe (fun l a W => ∃ vs : Nat → Value, a = ⟨List.toArray (.slice A n c :: Zb :: u2 :: .pointer (some ⟨W1.heap.size, 0, none⟩) :: .int .i64 wd :: .slice (some ⟨bR, oR, none⟩) R.length cR :: .slice (some ⟨bl, ol, none⟩) LN.length cL :: .pointer (some ⟨W9.heap.size, 0, none⟩) :: .int .i64 ↑GL.length :: .int .i64 ↑r :: vs 22 :: .int .i64 ↑i :: .pointer (some ⟨wr.heap.size, 0, none⟩) :: .slice A n c :: .int .i64 ↑n :: .bool false :: .tuple #[(Ya Ac t kc Ar kr), .int .i64 wd] :: .slice A n c :: .tuple #[(Ya Ac t kc Ar kr), .int .i64 wd] :: (Ya Ac t kc Ar kr) :: .int .i64 wd :: (Ya Ac t kc Ar kr) :: .int .i64 wd :: .slice (some ⟨bR, oR, none⟩) R.length cR :: (Ya Ac t kc Ar kr) :: .int .i64 wd :: .slice (some ⟨bl, ol, none⟩) LN.length cL :: .slice (some ⟨bR, oR, none⟩) R.length cR :: (Ya Ac t kc Ar kr) :: .int .i64 wd :: .slice AM R.length cM :: .bool true :: .bool false :: .bool false :: .slice (some ⟨bl, ol, none⟩) LN.length cL :: (Ya Ac t kc Ar kr) :: .int .i64 wd :: .slice AN LN.length cN :: .bool true :: .bool false :: .bool false :: .slice (some ⟨bR, oR, none⟩) R.length cR :: .int .i64 ↑R.length :: .bool false :: Zb :: Zb :: Zb :: Zb :: Zb :: Zb :: Zb :: Zb :: Zb :: Zb :: Zb :: Zb :: Zb :: Zb :: (Ya Ac t kc Ar kr) :: .agg #[.int .i64 ↑t.rows.length, .int .i64 ↑m, .slice (some ⟨bG, oG, none⟩) GL.length gc] :: .int .i64 ↑GL.length :: .pointer (some ⟨W9.heap.size, 2, none⟩) :: .slice (some ⟨bG, oG, none⟩) GL.length gc :: .int .i64 ↑GL.length :: .bool false :: u65 :: u66 :: u67 :: u68 :: u69 :: u70 :: u71 :: u72 :: u73 :: u74 :: u75 :: u76 :: u77 :: u78 :: u79 :: .int .i64 ↑r :: .slice (some ⟨bR, oR, none⟩) R.length cR :: .int .i64 ↑R.length :: .bool true :: u84 :: u85 :: .slice (some ⟨bR, oR, none⟩) R.length cR :: .int .i64 ↑r :: .pointer (some ⟨bR, oR + r, none⟩) :: .int .i64 zr :: .bool (zr == 0) :: .int .i64 ↑i :: .pointer (some ⟨W9.heap.size, 2, none⟩) :: .slice (some ⟨bG, oG, none⟩) GL.length gc :: .int .i64 ↑GL.length :: .bool true :: u96 :: u97 :: .pointer (some ⟨W9.heap.size, 2, none⟩) :: .slice (some ⟨bG, oG, none⟩) GL.length gc :: .int .i64 ↑i :: .pointer (some ⟨bG, oG + i * 5, none⟩) :: .agg #[.int .i64 xg.row, .int .i64 xg.col, .int .i64 xg.rows, .int .i64 xg.cols, .int .i64 xg.inn] :: vs 0 :: vs 1 :: vs 2 :: vs 3 :: vs 4 :: vs 5 :: vs 6 :: vs 7 :: vs 8 :: vs 9 :: vs 10 :: vs 11 :: vs 12 :: vs 13 :: vs 14 :: vs 15 :: vs 16 :: vs 17 :: vs 18 :: vs 19 :: vs 20 :: vs 21 :: u125 :: u126 :: Zb :: Zb :: Zb :: Zb :: Zb :: Zb :: []), []⟩ ∧ Yp KF 23 21 dep (V7.drew) (fun W v W2 => v = .bool false ∧ W2 = W) st l vs W) (by kernel_rfl) ?top ?start ?step ?fin
     case top => exact Zae (by kernel_rfl)
     case start => exact ⟨st, by rw [ST.out]; first | done | rfl, Yp.start⟩
     case step =>
      rintro l a W i o ho hl hpre hsz ⟨vs, rfl, hM0⟩ K hK
      have hi : i < 23 := (Array.getElem?_eq_some_iff.1 ho).1
      obtain rfl|rfl|rfl|rfl|rfl|rfl|rfl|rfl|rfl|rfl|rfl|rfl|rfl|rfl|rfl|rfl|rfl|rfl|rfl|rfl|rfl|rfl|rfl := Zvu hi
      all_goals
       simp only [List.getElem?_toArray, List.getElem?_cons_zero, List.getElem?_cons_succ, Option.some.injEq] at ho
       subst ho
       have hPR := Zce hpre
      · have hMB := hM0.below HLD hi (by decide) hl
        have hMG := hM0.get HLD hi (by decide) hl
        have v22 : vs 22 = .bool false := (hM0.getStale HLD hi (by decide) hl 22 (by decide)).trans (congrFun ST.out 22)
        have hdp := dpa DD hpre 0 rfl
        rw [v22]
        go_simp
        exact hK.out _ _ ⟨Zd vs 0 (.bool false), (by simp [Zd, v22]), hM0.still HLD HST 0 (by decide) (by decide) hl _ hdp ((KK.out 0 _ _).2 rfl)⟩
      · have hMB := hM0.below HLD hi (by decide) hl
        have hMG := hM0.get HLD hi (by decide) hl
        have v0 : vs 0 = .bool false := (KK.out 0 _ _).1 (hMG 0 (by decide) (hPR 0 rfl))
        have hdp := dpa DD hpre 1 rfl
        rw [v0]
        go_simp
        exact hK.out _ _ ⟨Zd vs 1 (.bool false), (by simp [Zd, v0]), hM0.still HLD HST 1 (by decide) (by decide) hl _ hdp ((KK.out 1 _ _).2 rfl)⟩
      · have hMB := hM0.below HLD hi (by decide) hl
        have hMG := hM0.get HLD hi (by decide) hl
        have v1 : vs 1 = .bool false := (KK.out 1 _ _).1 (hMG 1 (by decide) (hPR 1 rfl))
        have hdp := dpa DD hpre 2 rfl
        rw [v1]
        go_simp
        exact hK.out _ _ ⟨Zd vs 2 (.int .i64 ↑r), (by simp [Zd, v1]), hM0.still HLD HST 2 (by decide) (by decide) hl _ hdp ((KK.out 2 _ _).2 rfl)⟩
      · have hMB := hM0.below HLD hi (by decide) hl
        have hMG := hM0.get HLD hi (by decide) hl
        have v1 : vs 1 = .bool false := (KK.out 1 _ _).1 (hMG 1 (by decide) (hPR 1 rfl))
        have hdp := dpa DD hpre 3 rfl
        rw [v1]
        go_simp
        exact hK.out _ _ ⟨Zd vs 3 (.pointer (some ⟨wr.heap.size, 0, none⟩)), (by simp [Zd, v1]), hM0.still HLD HST 3 (by decide) (by decide) hl _ hdp ((KK.out 3 _ _).2 rfl)⟩
      · have hMB := hM0.below HLD hi (by decide) hl
        have hMG := hM0.get HLD hi (by decide) hl
        have v3 : vs 3 = .pointer (some ⟨wr.heap.size, 0, none⟩) := (KK.out 3 _ _).1 (hMG 3 (by decide) (hPR 3 rfl))
        have v1 : vs 1 = .bool false := (KK.out 1 _ _).1 (hMG 1 (by decide) (hPR 1 rfl))
        have hdp := dpa DD hpre 4 rfl
        have x0 := Zg hMB w0
        rw [v3, v1]
        go_simp
        exact hK.out _ _ ⟨Zd vs 4 (.int .i64 xg.row), (by simp [Zd, v3, v1]), hM0.still HLD HST 4 (by decide) (by decide) hl _ hdp ((KK.out 4 _ _).2 rfl)⟩
      · have hMB := hM0.below HLD hi (by decide) hl
        have hMG := hM0.get HLD hi (by decide) hl
        have v1 : vs 1 = .bool false := (KK.out 1 _ _).1 (hMG 1 (by decide) (hPR 1 rfl))
        have hdp := dpa DD hpre 5 rfl
        rw [v1]
        go_simp
        exact hK.out _ _ ⟨Zd vs 5 (.pointer (some ⟨wr.heap.size, 2, none⟩)), (by simp [Zd, v1]), hM0.still HLD HST 5 (by decide) (by decide) hl _ hdp ((KK.out 5 _ _).2 rfl)⟩
      · have hMB := hM0.below HLD hi (by decide) hl
        have hMG := hM0.get HLD hi (by decide) hl
        have v5 : vs 5 = .pointer (some ⟨wr.heap.size, 2, none⟩) := (KK.out 5 _ _).1 (hMG 5 (by decide) (hPR 5 rfl))
        have v1 : vs 1 = .bool false := (KK.out 1 _ _).1 (hMG 1 (by decide) (hPR 1 rfl))
        have hdp := dpa DD hpre 6 rfl
        have x0 := Zg hMB w2
        rw [v5, v1]
        go_simp
        exact hK.out _ _ ⟨Zd vs 6 (.int .i64 xg.rows), (by simp [Zd, v5, v1]), hM0.still HLD HST 6 (by decide) (by decide) hl _ hdp ((KK.out 6 _ _).2 rfl)⟩
      · have hMB := hM0.below HLD hi (by decide) hl
        have hMG := hM0.get HLD hi (by decide) hl
        have v4 : vs 4 = .int .i64 xg.row := (KK.out 4 _ _).1 (hMG 4 (by decide) (hPR 4 rfl))
        have v6 : vs 6 = .int .i64 xg.rows := (KK.out 6 _ _).1 (hMG 6 (by decide) (hPR 6 rfl))
        have v1 : vs 1 = .bool false := (KK.out 1 _ _).1 (hMG 1 (by decide) (hPR 1 rfl))
        have hdp := dpa DD hpre 7 rfl
        rw [v4, v6, v1]
        go_simp
        exact hK.out _ _ ⟨Zd vs 7 (.int .i64 (xg.row + xg.rows)), (by simp [Zd, v4, v6, v1]), hM0.still HLD HST 7 (by decide) (by decide) hl _ hdp ((KK.out 7 _ _).2 rfl)⟩
      · have hMB := hM0.below HLD hi (by decide) hl
        have hMG := hM0.get HLD hi (by decide) hl
        have v7 : vs 7 = .int .i64 (xg.row + xg.rows) := (KK.out 7 _ _).1 (hMG 7 (by decide) (hPR 7 rfl))
        have v1 : vs 1 = .bool false := (KK.out 1 _ _).1 (hMG 1 (by decide) (hPR 1 rfl))
        have hdp := dpa DD hpre 8 rfl
        rw [v7, v1]
        go_simp
        exact hK.out _ _ ⟨Zd vs 8 (.int .i64 (xg.row + xg.rows - 1)), (by simp [Zd, v7, v1]), hM0.still HLD HST 8 (by decide) (by decide) hl _ hdp ((KK.out 8 _ _).2 rfl)⟩
      · have hMB := hM0.below HLD hi (by decide) hl
        have hMG := hM0.get HLD hi (by decide) hl
        have v2 : vs 2 = .int .i64 ↑r := (KK.out 2 _ _).1 (hMG 2 (by decide) (hPR 2 rfl))
        have v8 : vs 8 = .int .i64 (xg.row + xg.rows - 1) := (KK.out 8 _ _).1 (hMG 8 (by decide) (hPR 8 rfl))
        have v1 : vs 1 = .bool false := (KK.out 1 _ _).1 (hMG 1 (by decide) (hPR 1 rfl))
        have hdp := dpa DD hpre 9 rfl
        rw [v2, v8, v1]
        go_simp
        exact hK.out _ _ ⟨Zd vs 9 (.bool false), (by simp [Zd, v2, v8, v1]), hM0.still HLD HST 9 (by decide) (by decide) hl _ hdp ((KK.out 9 _ _).2 rfl)⟩
      · have hMB := hM0.below HLD hi (by decide) hl
        have hMG := hM0.get HLD hi (by decide) hl
        have v9 : vs 9 = .bool false := (KK.out 9 _ _).1 (hMG 9 (by decide) (hPR 9 rfl))
        have v1 : vs 1 = .bool false := (KK.out 1 _ _).1 (hMG 1 (by decide) (hPR 1 rfl))
        have hdp := dpa DD hpre 10 rfl
        rw [v9, v1]
        go_simp
        exact hK.out _ _ ⟨Zd vs 10 (.bool false), (by simp [Zd, v9, v1]), hM0.still HLD HST 10 (by decide) (by decide) hl _ hdp ((KK.out 10 _ _).2 rfl)⟩
      · have hMB := hM0.below HLD hi (by decide) hl
        have hMG := hM0.get HLD hi (by decide) hl
        have v10 : vs 10 = .bool false := (KK.out 10 _ _).1 (hMG 10 (by decide) (hPR 10 rfl))
        have hdp := dpa DD hpre 11 rfl
        rw [v10]
        go_simp
        exact hK.out _ _ ⟨Zd vs 11 (undef), (by simp [Zd, v10]), hM0.still HLD HST 11 (by decide) (by decide) hl _ hdp ((KK.out 11 _ _).2 rfl)⟩
      · have hMB := hM0.below HLD hi (by decide) hl
        have hMG := hM0.get HLD hi (by decide) hl
        have v10 : vs 10 = .bool false := (KK.out 10 _ _).1 (hMG 10 (by decide) (hPR 10 rfl))
        have hdp := dpa DD hpre 12 rfl
        rw [v10]
        go_simp
        exact hK.out _ _ ⟨Zd vs 12 (undef), (by simp [Zd, v10]), hM0.still HLD HST 12 (by decide) (by decide) hl _ hdp ((KK.out 12 _ _).2 rfl)⟩
      · have hMB := hM0.below HLD hi (by decide) hl
        have hMG := hM0.get HLD hi (by decide) hl
        have v10 : vs 10 = .bool false := (KK.out 10 _ _).1 (hMG 10 (by decide) (hPR 10 rfl))
        have hdp := dpa DD hpre 13 rfl
        rw [v10]
        go_simp
        exact hK.out _ _ ⟨Zd vs 13 (undef), (by simp [Zd, v10]), hM0.still HLD HST 13 (by decide) (by decide) hl _ hdp ((KK.out 13 _ _).2 rfl)⟩
      · have hMB := hM0.below HLD hi (by decide) hl
        have hMG := hM0.get HLD hi (by decide) hl
        have v10 : vs 10 = .bool false := (KK.out 10 _ _).1 (hMG 10 (by decide) (hPR 10 rfl))
        have hdp := dpa DD hpre 14 rfl
        rw [v10]
        go_simp
        exact hK.out _ _ ⟨Zd vs 14 (undef), (by simp [Zd, v10]), hM0.still HLD HST 14 (by decide) (by decide) hl _ hdp ((KK.out 14 _ _).2 rfl)⟩
      · have hMB := hM0.below HLD hi (by decide) hl
        have hMG := hM0.get HLD hi (by decide) hl
        have v10 : vs 10 = .bool false := (KK.out 10 _ _).1 (hMG 10 (by decide) (hPR 10 rfl))
        have hdp := dpa DD hpre 15 rfl
        rw [v10]
        go_simp
        exact hK.out _ _ ⟨Zd vs 15 (undef), (by simp [Zd, v10]), hM0.still HLD HST 15 (by decide) (by decide) hl _ hdp ((KK.out 15 _ _).2 rfl)⟩
      · have hMB := hM0.below HLD hi (by decide) hl
        have hMG := hM0.get HLD hi (by decide) hl
        have v10 : vs 10 = .bool false := (KK.out 10 _ _).1 (hMG 10 (by decide) (hPR 10 rfl))
        have hdp := dpa DD hpre 16 rfl
        rw [v10]
        go_simp
        exact hK.out _ _ ⟨Zd vs 16 (undef), (by simp [Zd, v10]), hM0.still HLD HST 16 (by decide) (by decide) hl _ hdp ((KK.out 16 _ _).2 rfl)⟩
      · have hMB := hM0.below HLD hi (by decide) hl
        have hMG := hM0.get HLD hi (by decide) hl
        have v10 : vs 10 = .bool false := (KK.out 10 _ _).1 (hMG 10 (by decide) (hPR 10 rfl))
        have hdp := dpa DD hpre 17 rfl
        rw [v10]
        go_simp
        exact hK.out _ _ ⟨Zd vs 17 (undef), (by simp [Zd, v10]), hM0.still HLD HST 17 (by decide) (by decide) hl _ hdp ((KK.out 17 _ _).2 rfl)⟩
      · have hMB := hM0.below HLD hi (by decide) hl
        have hMG := hM0.get HLD hi (by decide) hl
        have v10 : vs 10 = .bool false := (KK.out 10 _ _).1 (hMG 10 (by decide) (hPR 10 rfl))
        have hdp := dpa DD hpre 18 rfl
        rw [v10]
        go_simp
        exact hK.out _ _ ⟨Zd vs 18 (undef), (by simp [Zd, v10]), hM0.still HLD HST 18 (by decide) (by decide) hl _ hdp ((KK.out 18 _ _).2 rfl)⟩
      · have hMB := hM0.below HLD hi (by decide) hl
        have hMG := hM0.get HLD hi (by decide) hl
        have v10 : vs 10 = .bool false := (KK.out 10 _ _).1 (hMG 10 (by decide) (hPR 10 rfl))
        have hdp := dpa DD hpre 19 rfl
        rw [v10]
        go_simp
        exact hK.out _ _ ⟨Zd vs 19 (undef), (by simp [Zd, v10]), hM0.still HLD HST 19 (by decide) (by decide) hl _ hdp ((KK.out 19 _ _).2 rfl)⟩
      · have hMB := hM0.below HLD hi (by decide) hl
        have hMG := hM0.get HLD hi (by decide) hl
        have v10 : vs 10 = .bool false := (KK.out 10 _ _).1 (hMG 10 (by decide) (hPR 10 rfl))
        have v19 : vs 19 = undef := (KK.out 19 _ _).1 (hMG 19 (by decide) (hPR 19 rfl))
        have v1 : vs 1 = .bool false := (KK.out 1 _ _).1 (hMG 1 (by decide) (hPR 1 rfl))
        have hdp := dpa DD hpre 20 rfl
        rw [v10, v1]
        go_simp
        exact hK.out _ _ ⟨Zd vs 20 (.bool false), (by simp [Zd, v10, v19, v1]), hM0.still HLD HST 20 (by decide) (by decide) hl _ hdp ((KK.out 20 _ _).2 rfl)⟩
      ·
       have hMB := hM0.below HLD hi (by decide) hl
       have hMG := hM0.get HLD hi (by decide) hl
       have v1 : vs 1 = .bool false := (KK.out 1 _ _).1 (hMG 1 (by decide) (hPR 1 rfl))
       have v20 : vs 20 = .bool false := (KK.out 20 _ _).1 (hMG 20 (by decide) (hPR 20 rfl))
       have hdp := dpa DD hpre 21 rfl
       have hno : ∀ j, 21 < j → l.getD j false = true → 21 ∈ dep j := by
        intro j hj hj2
        have hjn : j < 23 := by have := Zap hj2; rw [hM0.size] at this; exact this
        obtain rfl : j = 22 := by omega
        rw [DD.out]; simp
       rw [v1, v20]
       go_simp
       exact hK.out _ _ ⟨Zd vs 21 (.bool false), by simp [Zd, v1, v20], hM0.last HLD (by decide) hl hno _ hdp ⟨rfl, rfl⟩⟩
      have hdp := dpa DD hpre 22 rfl
      go_simp
      exact hK.out _ _ ⟨Zd vs 22 (vs 21), by simp [Zd], hM0.post 22 (by decide) (by decide) (hPR 21 rfl) hdp⟩
     rintro l a W24 hall ⟨vs24, rfl, hM0⟩
     obtain ⟨W241, hMB, hMG, hMR, hMA⟩ := hM0.fin (by decide) hall
     have HBW := Za hMB
     have v22 := hMA 22 (by decide) (by decide)
     rw [hMR.1] at v22
     rw [v22]
     have hWe := hMR.2
     rw [hWe]
     clear KK DD ST HLD HST hMG v22 hWe hMR hMA hMB hall hM0 st z3 w0 w1 w2 w3 w4
     have hg40 := HGN.out
     go_wp2_with fail
     go_roundg (GL.length - (i + 1))
     case measure => omega
     case rel => exact ⟨i + 1, by omega, by omega, by go_num, by rw [HFIN.out], step HBD.out HBW.out⟩
   have hltz : ¬ (i : Int) < (GL.length : Int) := by omega
   have hany : (zr == 0 || ((Qf GL LN).take i).any nb) = true := by
    rw [List.take_of_length_le (by unfold Qf; rw [List.length_zip]; omega), Bool.or_eq_true]
    exact H4.out.imp (fun h => by simpa using h) id
   rw [hany]
   clear hany
   go_wp2_with fail
   go_roundg (R.length - (r + 1))
   case measure => omega
   case rel => exact ⟨r + 1, by omega, by omega, by go_num, HB2.out⟩
  have hlrz : ¬ (r : Int) < (R.length : Int) := by omega
  obtain ⟨_, _, _, hK2⟩ := HCB.out wr (step HBV.out HB.out)
  have g3 := hK2.1 3 _ rfl
  have HRL := HO1.out
  have hrl2 : ((R.length : Int) == (t.rows.length : Int)) = true := by rw [HRL]; simp
  clear hK2 HRL
  go_wp2_with fail
  go_ret
  exact ⟨rfl, step HB1.out (step HBV.out HB.out)⟩
 ·
  have e2 : R = [] := by rw [← HRE.out.2]; exact if_neg hq
  have hl0 : ((R.length : Int) == 0) = true := by rw [e2]; rfl
  have hO7 := Zb0 t Ac kc Ar kr W7 (HCB.out W7 HB7.out).2.1 (HCB.out W7 HB7.out).2.2.1
  clear hK2 e2 HRE
  cases hok : Qn t with
  | false =>
   rw [hok] at hO7
   clear hok hq
   go_wp2_with fail
   refine hO7.mono ?_
   rintro e W8 ⟨rfl, hb8⟩
   have HB8 := Za (step HB1.out (step HB7.out hb8))
   have hPW := Zie W8 (HW.out.below HB8.out)
   clear g0 g1 g2 g3 g4 hO7 hb8
   go_wp2_with fail
   refine hPW.mono ?_
   rintro e W9 ⟨rfl, hb9⟩
   go_wp2_with fail
   go_ret
   exact ⟨rfl, step HB8.out hb9⟩
  | true =>
   rw [hok] at hO7
   have hwdc : wd < 0 ∨ (¬ wd < 0 ∧ wd > 300) := by
    rcases Classical.em (wd < 0) with h | h
    · exact Or.inl h
    exact Or.inr ⟨h, by have : ¬ (0 ≤ wd ∧ wd ≤ 300) := fun h9 => hq ⟨hok, h9⟩; omega⟩
   clear hok hq
   rcases hwdc with hwl | ⟨hwl, hwg⟩
   ·
    go_wp2_with fail
    refine hO7.mono ?_
    rintro e W8 ⟨rfl, hb8⟩
    have HB8 := Za (step HB1.out (step HB7.out hb8))
    have hPW := Zie W8 (HW.out.below HB8.out)
    clear g0 g1 g2 g3 g4 hO7 hb8
    go_wp2_with fail
    refine hPW.mono ?_
    rintro e W9 ⟨rfl, hb9⟩
    go_wp2_with fail
    go_ret
    exact ⟨rfl, step HB8.out hb9⟩
   go_wp2_with fail
   refine hO7.mono ?_
   rintro e W8 ⟨rfl, hb8⟩
   have HB8 := Za (step HB1.out (step HB7.out hb8))
   have hPW := Zie W8 (HW.out.below HB8.out)
   clear g0 g1 g2 g3 g4 hO7 hb8
   go_wp2_with fail
   refine hPW.mono ?_
   rintro e W9 ⟨rfl, hb9⟩
   go_wp2_with fail
   go_ret
   exact ⟨rfl, step HB8.out hb9⟩
end Go.Proofs.YtgdmcmicfoamlaaGreatDoor
