import Derived.Test.YtgdmcmicfoamlaaGreatDoorMixHg
set_option linter.unusedVariables false
set_option linter.unusedSimpArgs false
set_option maxHeartbeats 40000000
set_option maxRecDepth 100000
namespace Go.Proofs.YtgdmcmicfoamlaaGreatDoor
open Go.RowKit
theorem Zkw (t : Tbl) (A : Option Addr) (c : Nat) (A' : Option Addr) (c' : Nat) (width : Int) (w : World) (hc : Rd Zbz w A t.cols) (hr : Rd Zbp w A' t.rows) {k : Nat} (hy : Zdt t k) :
 Calls Tryz.prog 25 #[.agg #[.slice A t.cols.length c, .int .i64 t.head, .int .i64 t.foot, .slice A' t.rows.length c', .int .i64 t.gap], .int .i64 width] w fun e w' => ∃ v, e = .returned v ∧ Ql (α := ByteArray) w' w.heap.size 44 9 1 Zci v (Zar t width) ∧ Below w.heap.size w w' := by
 have hT := fun (W : World) (h : Below w.heap.size w W) => Zb0 t A c A' c' W (hc.below h) (hr.below h)
 have hI := fun (W : World) => Za1 width 0 300 W
 by_cases hq : Qn t = true ∧ 0 ≤ width ∧ width ≤ 300
 ·
  obtain ⟨hok, hwd⟩ := hq
  have hb1 : inB width 0 300 = true := by simp [inB]; omega
  rw [hb1] at hI
  have hG := fun (W : World) (h : Below w.heap.size w W) => Zh4 t A c A' c' W hok (hc.below h) (hr.below h)
  rw [hok] at hT
  rw [← Zn2 hok hy] at hG
  obtain ⟨n, hn, hn1, hcell, hcl⟩ := Za2 hok hy 400 Zdn
  obtain ⟨n', hn', _, hcell2, _⟩ := Za2 hok hy 400 Zhs
  have hnn : n = n' := by omega
  subst hnn
  have hle := Zeu 400 t
  have hsm : Hid (∀ x ∈ (Zp 400 t).1, GSm x) := (GIn.rows (m := 400) hok).sm (by omega)
  have hwc : Zz 400 t width = Za6 (Zw t) (Zbd t) width t.gap (Yf t (Zp 400 t).1 n) (Zcb t (Zp 400 t).1 n) := by unfold Zz; rw [if_pos ⟨hok, hwd⟩, hn]; rfl
  obtain ⟨n2, hn2, hn3, j1, j2, j3, hwl, hwi, j4⟩ := Zgy hok hy hwd
  clear j1 j2 j3 j4
  have hres : Zar t width = Zy t (Zp 400 t).1 (Zz 400 t width) := if_pos ⟨hok, hwd⟩
  rw [hres]
  have hgrin := Zfv hok 400
  rw [hn] at hG hle
  have hL := fun (W : World) (h : Below w.heap.size w W) GA gc hg => Ziu t A c A' c' t.rows.length n (Zp 400 t).1 GA gc width W hok (hc.below h) (hr.below h) hg hn1 hcell hcell2 (by omega) hwd
  rw [← hwc] at hL
  have hgap := (Zx hok).2.2.1
  have hrw := (Zx hok).1
  have hCA : ∀ x ∈ (Zp 400 t).1, Zaq t x ∧ Zng x ∧ (1 ≤ x.rows ∧ x.row + x.rows ≤ t.rows.length) := fun x hx => by
   have h1 := (hcell x hx).2.1
   have h2 := hgrin x hx
   rw [hn] at h2
   have a1 := h2.row
   have a2 := h2.rows
   have a3 := h2.down
   have a4 := h2.col
   have a5 := h2.cols
   have a6 := h2.right
   exact ⟨h1, ⟨⟨by omega, by omega⟩, ⟨by omega, by omega⟩, ⟨by omega, by omega⟩, ⟨by omega, by omega⟩⟩, by omega, a3⟩
  have hlr : Zcv (Zp 400 t).1 (Zy t (Zp 400 t).1 (Zz 400 t width)) t.rows.length t.rows.length = Qr (Qf (Zp 400 t).1 (Zy t (Zp 400 t).1 (Zz 400 t width))) t.rows.length (List.replicate t.rows.length 0) := rfl
  have hln : (Zy t (Zp 400 t).1 (Zz 400 t width)).length = (Zp 400 t).1.length := by unfold Zy; simp
  have hl31 : ∀ l ∈ Zy t (Zp 400 t).1 (Zz 400 t width), l.length ≤ 31 := fun l hl => by
   obtain ⟨x, _, rfl⟩ := List.mem_map.1 hl
   exact Zjd _ _
  have hLL := fun (W : World) (h : Below w.heap.size w W) GA gc XA xc (hg : Rd gcR W GA (Zp 400 t).1) (hX : Rd Za4 W XA (Zz 400 t width)) => Zhk t A c A' c' t.rows.length n (Zp 400 t).1 GA gc (Zz 400 t width) XA xc W (hr.below h) hg hX hgap hwi (by omega) (fun x hx => ⟨(hCA x hx).1, (hCA x hx).2.1⟩) hcl
  have HC := Za (And.intro hc hr)
  rw [hlr] at *
  clear hok hc hr hres hy hn hcell hcell2 hn' hle hb1 hgrin hwc hlr hn2 hn3 hwi hCA hwl
  generalize Zy t (Zp 400 t).1 (Zz 400 t width) = LN at *
  generalize Zz 400 t width = X at *
  generalize Zp 400 t = GG at *
  obtain ⟨GL, GN⟩ := GG
  dsimp only at *
  go_enter Tryz.func25, Tryz.ntmps25
  go_wp2_with fail
  refine (hT _ (Zc (Zf _) _)).mono ?_
  rintro e w1 ⟨rfl, hb⟩
  obtain ⟨c0, f0, s0⟩ := Jc w.heap.size (by first | (simp; omega) | simp [*]) hb
  have HB := Za (step (Zc (Zf w) (.cells #[.slice A t.cols.length c, .int .i64 t.head, .int .i64 t.foot, .slice A' t.rows.length c', .int .i64 t.gap] 26)) hb)
  have hKT1 : Zh w1 w.heap.size [.slice A t.cols.length c, .int .i64 t.head, .int .i64 t.foot, .slice A' t.rows.length c', .int .i64 t.gap] := (Zh.new w [.slice A t.cols.length c, .int .i64 t.head, .int .i64 t.foot, .slice A' t.rows.length c', .int .i64 t.gap] 26).keep (hb.block _ (by simp))
  clear hT hb
  go_wp2_with (go_at_call 78; refine (hI _).mono ?_; rintro e w' ⟨rfl, rfl⟩)
  refine (hG _ HB.out).mono ?_
  rintro e w2 ⟨GA, gc, rfl, hown, hb2⟩
  dsimp only at hown ⊢
  have hrd := Zmr hown hsm.out
  obtain ⟨V, hV⟩ : ∃ V, V = w2.alloc (.cells #[.int .i64 t.rows.length, .int .i64 n, .slice GA GL.length gc] 39) := ⟨_, rfl⟩
  have eV : Below w2.heap.size w2 V := by rw [hV]; exact Zc (Zf _) _
  have HKG : Hid (Zh V w2.heap.size [.int .i64 t.rows.length, .int .i64 n, .slice GA GL.length gc]) := by rw [hV]; exact Zh.new w2 _ _
  have HBV : Hid (Below w.heap.size w V) := step (step HB.out hb2) eV
  have HKT : Hid (Zh V w.heap.size [.slice A t.cols.length c, .int .i64 t.head, .int .i64 t.foot, .slice A' t.rows.length c', .int .i64 t.gap]) := (hKT1.keep (hb2.block _ s0)).keep (eV.block _ (by have := hb2.size; omega))
  have HGV := Za (hrd.below eV)
  have HV := Za hV
  clear hG hI hown hrd hb2 eV hV hKT1 c0 f0 s0
  go_upto_region 4 with fail
  rw [← HV.out]
  have ed := Zt (Zf V)
  have HBD := Za (Zt HBV.out)
  have z0 : V.drew.cell? ⟨w.heap.size, 0, none⟩ = some (.slice A t.cols.length c) := Zg ed (HKT.out.1 0 _ rfl)
  have z1 : V.drew.cell? ⟨w.heap.size, 1, none⟩ = some (.int .i64 t.head) := Zg ed (HKT.out.1 1 _ rfl)
  have z2 : V.drew.cell? ⟨w.heap.size, 2, none⟩ = some (.int .i64 t.foot) := Zg ed (HKT.out.1 2 _ rfl)
  have z3 : V.drew.cell? ⟨w.heap.size, 3, none⟩ = some (.slice A' t.rows.length c') := Zg ed (HKT.out.1 3 _ rfl)
  have z4 : V.drew.cell? ⟨w.heap.size, 4, none⟩ = some (.int .i64 t.gap) := Zg ed (HKT.out.1 4 _ rfl)
  have y0 : V.drew.cell? ⟨w2.heap.size, 0, none⟩ = some (.int .i64 t.rows.length) := Zg ed (HKG.out.1 0 _ rfl)
  have y1 : V.drew.cell? ⟨w2.heap.size, 1, none⟩ = some (.int .i64 n) := Zg ed (HKG.out.1 1 _ rfl)
  have y2 : V.drew.cell? ⟨w2.heap.size, 2, none⟩ = some (.slice GA GL.length gc) := Zg ed (HKG.out.1 2 _ rfl)
  have HGD := Za (HGV.out.below ed)
  have HL6 := Za (fun (W : World) (h : Below V.drew.heap.size V.drew W) => hL W (step HBD.out h) GA gc (HGD.out.below h))
  have HL7 := Za (fun (W : World) (h : Below V.drew.heap.size V.drew W) XA xc hX => hLL W (step HBD.out h) GA gc XA xc (HGD.out.below h) hX)
  have HLN := Za hln
  clear ed hL hLL hln
  obtain ⟨KF, hKF⟩ : ∃ f : Nat → Value → World → Prop, f = (fun j v W => match j with | 0 => v = .agg #[.slice A t.cols.length c, .int .i64 t.head, .int .i64 t.foot, .slice A' t.rows.length c', .int .i64 t.gap] | 1 => v = .agg #[.int .i64 t.rows.length, .int .i64 n, .slice GA GL.length gc] | 2 => v = .agg #[.slice A t.cols.length c, .int .i64 t.head, .int .i64 t.foot, .slice A' t.rows.length c', .int .i64 t.gap] | 3 => v = .agg #[.int .i64 t.rows.length, .int .i64 n, .slice GA GL.length gc] | 4 => v = .int .i64 width | 5 => ∃ Aq dq, v = .slice Aq X.length dq ∧ Rd Za4 W Aq X | 6 => ∃ Ar dr, v = .slice Ar GL.length dr ∧ Ql (α := ByteArray) W V.drew.heap.size 44 9 1 Zci (.slice Ar GL.length dr) LN | 7 => ∃ At dt, v = .slice At GL.length dt ∧ Ql (α := ByteArray) W V.drew.heap.size 44 9 1 Zci (.slice At GL.length dt) LN | _ => True) := ⟨_, rfl⟩
  have KK := Za (kf hKF)
  have HST : Yw KF := by
   rw [hKF]
   intro j v W W9 h hb
   by_cases hjn : j < 8
   ·
    obtain rfl|rfl|rfl|rfl|rfl|rfl|rfl|rfl : j = 0 ∨ j = 1 ∨ j = 2 ∨ j = 3 ∨ j = 4 ∨ j = 5 ∨ j = 6 ∨ j = 7 := by omega
    · exact h
    · exact h
    · exact h
    · exact h
    · exact h
    · obtain ⟨Aq, dq, hv, h⟩ := h
      exact ⟨Aq, dq, hv, h.below hb⟩
    · obtain ⟨Ar, dr, hv, h⟩ := h
      exact ⟨Ar, dr, hv, h.below hb⟩
    obtain ⟨At, dt, hv, h⟩ := h
    exact ⟨At, dt, hv, h.below hb⟩
   obtain ⟨k, rfl⟩ : ∃ k, j = k + 8 := ⟨j - 8, by omega⟩
   exact h
  clear hKF
  obtain ⟨dep, hdep⟩ : ∃ f : Nat → List Nat, f = (fun j => match j with | 5 => [2, 3, 4] | 6 => [0, 1, 5] | 7 => [6] | _ => []) := ⟨_, rfl⟩
  have DD := Za hdep
  clear hdep
  have HLD : Yt 8 8 dep := Zgw (by decide)
  obtain ⟨st, hst⟩ : ∃ f : Nat → Value, f = (fun j => match j with | 0 => undef | 1 => undef | 2 => undef | 3 => undef | 4 => undef | 5 => undef | 6 => undef | 7 => .slice none 0 0 | _ => undef) := ⟨_, rfl⟩
  have ST := Za hst
  clear hst
  refine Qe (fun l a W => ∃ vs : Nat → Value, a = ⟨List.toArray ((Ya A t c A' c') :: .int .i64 width :: .pointer (some ⟨w.heap.size, 0, none⟩) :: Zb :: vs 7 :: .pointer (some ⟨w2.heap.size, 0, none⟩) :: (Ya A t c A' c') :: .bool true :: .bool false :: .bool false :: .int .i64 width :: .bool true :: .bool false :: .bool false :: Zb :: (Ya A t c A' c') :: .agg #[.int .i64 ↑t.rows.length, .int .i64 ↑n, .slice GA GL.length gc] :: vs 0 :: vs 1 :: vs 2 :: vs 3 :: vs 4 :: vs 5 :: vs 6 :: []), []⟩ ∧ Yp KF 8 8 dep (V.drew) (fun _ _ _ => True) st l vs W) (by kernel_rfl) ?top ?start ?step ?fin
  case top => exact Zae (by kernel_rfl)
  case start => exact ⟨st, by rw [ST.out]; first | done | rfl, Yp.start⟩
  case step =>
   rintro l a W i o ho hl hpre hsz ⟨vs, rfl, hM0⟩ K hK
   have hi : i < 8 := (Array.getElem?_eq_some_iff.1 ho).1
   obtain rfl|rfl|rfl|rfl|rfl|rfl|rfl|rfl := cs8 hi
   all_goals
    simp only [List.getElem?_toArray, List.getElem?_cons_zero, List.getElem?_cons_succ, Option.some.injEq] at ho
    subst ho
    have hMB := hM0.below HLD hi (by decide) hl
    have hMG := hM0.get HLD hi (by decide) hl
    have hV := Zsd KK hMG hpre
    try have stl := hM0.sti HLD HST KK DD hpre hi (by decide) hl
   ·
    have x0 := Zg hMB z0
    have x1 := Zg hMB z1
    have x2 := Zg hMB z2
    have x3 := Zg hMB z3
    have x4 := Zg hMB z4
    go_simp
    exact hK.out _ _ ⟨Zd vs 0 _, rfl, stl _ rfl rfl⟩
   · have x0 := Zg hMB y0
     have x1 := Zg hMB y1
     have x2 := Zg hMB y2
     go_simp
     exact hK.out _ _ ⟨Zd vs 1 _, rfl, stl _ rfl rfl⟩
   ·
    have x0 := Zg hMB z0
    have x1 := Zg hMB z1
    have x2 := Zg hMB z2
    have x3 := Zg hMB z3
    have x4 := Zg hMB z4
    go_simp
    exact hK.out _ _ ⟨Zd vs 2 _, rfl, stl _ rfl rfl⟩
   · have x0 := Zg hMB y0
     have x1 := Zg hMB y1
     have x2 := Zg hMB y2
     go_simp
     exact hK.out _ _ ⟨Zd vs 3 _, rfl, stl _ rfl rfl⟩
   · go_simp
     exact hK.out _ _ ⟨Zd vs 4 _, rfl, stl _ rfl rfl⟩
   ·
    have v2 : vs 2 = .agg #[.slice A t.cols.length c, .int .i64 t.head, .int .i64 t.foot, .slice A' t.rows.length c', .int .i64 t.gap] := hV 2 rfl
    have v3 : vs 3 = .agg #[.int .i64 t.rows.length, .int .i64 n, .slice GA GL.length gc] := hV 3 rfl
    have v4 : vs 4 = .int .i64 width := hV 4 rfl
    have hdp := dpa DD hpre 5 rfl
    rw [v2, v3, v4]
    go_simp
    refine (HL6.out _ hMB).mono ?_
    rintro e5 W5 ⟨v5, rfl, hI5, hb5⟩
    obtain ⟨A5, d5, rfl⟩ := hI5.form
    exact hK.out _ _ ⟨Zd vs 5 (.slice A5 X.length d5), (by simp [Zd, v2, v3, v4]), hM0.next HLD HST 5 (by decide) (by decide) hl _ hdp hb5 ((KK.out 5 _ _).2 ⟨A5, d5, rfl, (Qq hI5)⟩)⟩
   ·
    have v0 : vs 0 = .agg #[.slice A t.cols.length c, .int .i64 t.head, .int .i64 t.foot, .slice A' t.rows.length c', .int .i64 t.gap] := hV 0 rfl
    have v1 : vs 1 = .agg #[.int .i64 t.rows.length, .int .i64 n, .slice GA GL.length gc] := hV 1 rfl
    obtain ⟨Aq, dq, v5, q5⟩ := hV 5 rfl
    have hdp := dpa DD hpre 6 rfl
    rw [v0, v1, v5]
    go_simp
    refine (HL7.out _ hMB Aq dq q5).mono ?_
    rintro e5 W5 ⟨v5, rfl, hN5, hb5⟩
    obtain ⟨A5, d5, rfl⟩ := hN5.form
    rw [HLN.out]
    exact hK.out _ _ ⟨Zd vs 6 (.slice A5 GL.length d5), (by simp [Zd, v0, v1, v5]), hM0.next HLD HST 6 (by decide) (by decide) hl _ hdp hb5 ((KK.out 6 _ _).2 ⟨A5, d5, rfl, (by have h9 := hN5.rebase hMB.size; rw [HLN.out] at h9; exact h9)⟩)⟩
   obtain ⟨Ar, dr, v6, q6⟩ := hV 6 rfl
   have hdp := dpa DD hpre 7 rfl
   rw [v6]
   go_simp
   exact hK.out _ _ ⟨Zd vs 7 (.slice Ar GL.length dr), (by simp [Zd, v6]), hM0.still HLD HST 7 (by decide) (by decide) hl _ hdp ((KK.out 7 _ _).2 ⟨Ar, dr, rfl, q6⟩)⟩
  rintro l a W4 hall ⟨vs4, rfl, hM0⟩
  obtain ⟨hMB, hMG⟩ := hM0.fin0 (by decide) hall
  have HBW := Za hMB
  obtain ⟨At, dt, v7, q7⟩ := (KK.out 7 _ _).1 (hMG 7 (by decide))
  rw [v7]
  clear KK DD ST HLD HST hMG v7 hMB hall hM0 st
  have HQ := Za q7
  clear q7
  go_wp2_with fail
  go_ret
  exact ⟨_, rfl, HQ.out.rebase HBD.out.size, step HBD.out HBW.out⟩
 have hres : Zar t width = [] := if_neg hq
 rw [hres]
 have hdef : Qn t = false ∨ (Qn t = true ∧ inB width 0 300 = false) := by
  cases hok : Qn t with
  | false => exact .inl rfl
  | true =>
   refine .inr ⟨rfl, ?_⟩
   rw [Bool.eq_false_iff]
   intro h8
   simp [inB] at h8
   exact hq ⟨hok, by omega, by omega⟩
 clear hres hc hr hy hq
 rcases hdef with hok | ⟨hok, hb1⟩
 ·
  rw [hok] at hT
  clear hok
  go_enter Tryz.func25, Tryz.ntmps25
  go_wp2_with fail
  refine (hT _ (Zc (Zf _) _)).mono ?_
  rintro e w1 ⟨rfl, hb⟩
  have HB := Za (step (Zc (Zf w) _) hb)
  have HM := Za ((show Ql (α := ByteArray) (w1.alloc (.cells #[] 44)) w.heap.size 44 9 1 Zci (.slice (some ⟨w1.heap.size, 0, none⟩) 0 0) [] from ⟨[], Jw (World.ownsRow_made (e := 44) (size := 1) w1 #[] 0 (Nat.le_refl _) (Nat.zero_le _) (by simp)) HB.out.size, Yh.nil⟩))
  clear hb hT
  go_wp2_with fail
  go_ret
  exact ⟨_, rfl, HM.out, Zc HB.out _⟩
 rw [hok] at hT
 rw [hb1] at hI
 clear hok hb1
 go_enter Tryz.func25, Tryz.ntmps25
 go_wp2_with fail
 refine (hT _ (Zc (Zf _) _)).mono ?_
 rintro e w1 ⟨rfl, hb⟩
 have HB := Za (step (Zc (Zf w) _) hb)
 have HM := Za ((show Ql (α := ByteArray) (w1.alloc (.cells #[] 44)) w.heap.size 44 9 1 Zci (.slice (some ⟨w1.heap.size, 0, none⟩) 0 0) [] from ⟨[], Jw (World.ownsRow_made (e := 44) (size := 1) w1 #[] 0 (Nat.le_refl _) (Nat.zero_le _) (by simp)) HB.out.size, Yh.nil⟩))
 clear hb hT
 go_wp2_with (go_at_call 78; refine (hI _).mono ?_; rintro e w' ⟨rfl, rfl⟩)
 go_ret
 exact ⟨_, rfl, HM.out, Zc HB.out _⟩
theorem Zmw (t : Tbl) (A : Option Addr) (c : Nat) (A' : Option Addr) (c' : Nat) (width : Int) (w : World) (hc : Rd Zbz w A t.cols) (hr : Rd Zbp w A' t.rows) {k : Nat} (hy : Zdt t k) :
 Calls Tryz.prog 23 #[.agg #[.slice A t.cols.length c, .int .i64 t.head, .int .i64 t.foot, .slice A' t.rows.length c', .int .i64 t.gap], .int .i64 width] w fun e w' => ∃ v, e = .returned v ∧ Zn w' w.heap.size v (Zcc t width) ∧ Below w.heap.size w w' := by
 have hT := fun (W : World) (h : Below w.heap.size w W) => Zb0 t A c A' c' W (hc.below h) (hr.below h)
 have hI := fun (W : World) => Za1 width 0 300 W
 by_cases hq : Qn t = true ∧ 0 ≤ width ∧ width ≤ 300
 ·
  obtain ⟨hok, hwd⟩ := hq
  have hb1 : inB width 0 300 = true := by simp [inB]; omega
  rw [hb1] at hI
  have hG := fun (W : World) (h : Below w.heap.size w W) => Zh4 t A c A' c' W hok (hc.below h) (hr.below h)
  rw [hok] at hT
  rw [← Zn2 hok hy] at hG
  obtain ⟨n, hn, hn1, hcell, hcl⟩ := Za2 hok hy 400 Zdn
  obtain ⟨n', hn', _, hcell2, _⟩ := Za2 hok hy 400 Zhs
  have hnn : n = n' := by omega
  subst hnn
  have hle := Zeu 400 t
  have hsm : Hid (∀ x ∈ (Zp 400 t).1, GSm x) := (GIn.rows (m := 400) hok).sm (by omega)
  have hwc : Zz 400 t width = Za6 (Zw t) (Zbd t) width t.gap (Yf t (Zp 400 t).1 n) (Zcb t (Zp 400 t).1 n) := by unfold Zz; rw [if_pos ⟨hok, hwd⟩, hn]; rfl
  obtain ⟨n2, hn2, hn3, j1, j2, j3, hwl, hwi, j4⟩ := Zgy hok hy hwd
  clear j1 j2 j3 j4
  have hres : Zcc t width = Zcv (Zp 400 t).1 (Zy t (Zp 400 t).1 (Zz 400 t width)) t.rows.length t.rows.length := if_pos ⟨hok, hwd⟩
  rw [hres]
  have hgrin := Zfv hok 400
  rw [hn] at hG hle
  have hL := fun (W : World) (h : Below w.heap.size w W) GA gc hg => Ziu t A c A' c' t.rows.length n (Zp 400 t).1 GA gc width W hok (hc.below h) (hr.below h) hg hn1 hcell hcell2 (by omega) hwd
  rw [← hwc] at hL
  have hgap := (Zx hok).2.2.1
  have hrw := (Zx hok).1
  have hCA : ∀ x ∈ (Zp 400 t).1, Zaq t x ∧ Zng x ∧ (1 ≤ x.rows ∧ x.row + x.rows ≤ t.rows.length) := fun x hx => by
   have h1 := (hcell x hx).2.1
   have h2 := hgrin x hx
   rw [hn] at h2
   have a1 := h2.row
   have a2 := h2.rows
   have a3 := h2.down
   have a4 := h2.col
   have a5 := h2.cols
   have a6 := h2.right
   exact ⟨h1, ⟨⟨by omega, by omega⟩, ⟨by omega, by omega⟩, ⟨by omega, by omega⟩, ⟨by omega, by omega⟩⟩, by omega, a3⟩
  have hlr : Zcv (Zp 400 t).1 (Zy t (Zp 400 t).1 (Zz 400 t width)) t.rows.length t.rows.length = Qr (Qf (Zp 400 t).1 (Zy t (Zp 400 t).1 (Zz 400 t width))) t.rows.length (List.replicate t.rows.length 0) := rfl
  have hln : (Zy t (Zp 400 t).1 (Zz 400 t width)).length = (Zp 400 t).1.length := by unfold Zy; simp
  have hl31 : ∀ l ∈ Zy t (Zp 400 t).1 (Zz 400 t width), l.length ≤ 31 := fun l hl => by
   obtain ⟨x, _, rfl⟩ := List.mem_map.1 hl
   exact Zjd _ _
  have hLL := fun (W : World) (h : Below w.heap.size w W) GA gc XA xc (hg : Rd gcR W GA (Zp 400 t).1) (hX : Rd Za4 W XA (Zz 400 t width)) => Zhk t A c A' c' t.rows.length n (Zp 400 t).1 GA gc (Zz 400 t width) XA xc W (hr.below h) hg hX hgap hwi (by omega) (fun x hx => ⟨(hCA x hx).1, (hCA x hx).2.1⟩) hcl
  have hRR := fun (W : World) (h : Below w.heap.size w W) GA gc LA lc (hg : Rd gcR W GA (Zp 400 t).1) (hL9 : Rd (Zit Zic) W LA (Zy t (Zp 400 t).1 (Zz 400 t width))) => Zou t.rows.length n (Zp 400 t).1 GA gc (Zy t (Zp 400 t).1 (Zz 400 t width)) LA lc W hg hL9 hln hl31 (by omega) (fun x hx => (hCA x hx).2) hcl
  have HC := Za (And.intro hc hr)
  rw [hlr] at *
  clear hok hc hr hres hy hn hcell hcell2 hn' hle hb1 hgrin hwc hlr hn2 hn3 hwi hCA hwl
  generalize Zy t (Zp 400 t).1 (Zz 400 t width) = LN at *
  generalize Zz 400 t width = X at *
  generalize Zp 400 t = GG at *
  obtain ⟨GL, GN⟩ := GG
  dsimp only at *
  go_enter Tryz.func23, Tryz.ntmps23
  go_wp2_with fail
  refine (hT _ (Zc (Zf _) _)).mono ?_
  rintro e w1 ⟨rfl, hb⟩
  obtain ⟨c0, f0, s0⟩ := Jc w.heap.size (by first | (simp; omega) | simp [*]) hb
  have HB := Za (step (Zc (Zf w) (.cells #[.slice A t.cols.length c, .int .i64 t.head, .int .i64 t.foot, .slice A' t.rows.length c', .int .i64 t.gap] 26)) hb)
  have hKT1 : Zh w1 w.heap.size [.slice A t.cols.length c, .int .i64 t.head, .int .i64 t.foot, .slice A' t.rows.length c', .int .i64 t.gap] := (Zh.new w [.slice A t.cols.length c, .int .i64 t.head, .int .i64 t.foot, .slice A' t.rows.length c', .int .i64 t.gap] 26).keep (hb.block _ (by simp))
  clear hT hb
  go_wp2_with (go_at_call 78; refine (hI _).mono ?_; rintro e w' ⟨rfl, rfl⟩)
  refine (hG _ HB.out).mono ?_
  rintro e w2 ⟨GA, gc, rfl, hown, hb2⟩
  dsimp only at hown ⊢
  have hrd := Zmr hown hsm.out
  obtain ⟨V, hV⟩ : ∃ V, V = w2.alloc (.cells #[.int .i64 t.rows.length, .int .i64 n, .slice GA GL.length gc] 39) := ⟨_, rfl⟩
  have eV : Below w2.heap.size w2 V := by rw [hV]; exact Zc (Zf _) _
  have HKG : Hid (Zh V w2.heap.size [.int .i64 t.rows.length, .int .i64 n, .slice GA GL.length gc]) := by rw [hV]; exact Zh.new w2 _ _
  have HBV : Hid (Below w.heap.size w V) := step (step HB.out hb2) eV
  have HKT : Hid (Zh V w.heap.size [.slice A t.cols.length c, .int .i64 t.head, .int .i64 t.foot, .slice A' t.rows.length c', .int .i64 t.gap]) := (hKT1.keep (hb2.block _ s0)).keep (eV.block _ (by have := hb2.size; omega))
  have HGV := Za (hrd.below eV)
  have HV := Za hV
  clear hG hI hown hrd hb2 eV hV hKT1 c0 f0 s0
  go_upto_region 4 with fail
  rw [← HV.out]
  have ed := Zt (Zf V)
  have HBD := Za (Zt HBV.out)
  have z0 : V.drew.cell? ⟨w.heap.size, 0, none⟩ = some (.slice A t.cols.length c) := Zg ed (HKT.out.1 0 _ rfl)
  have z1 : V.drew.cell? ⟨w.heap.size, 1, none⟩ = some (.int .i64 t.head) := Zg ed (HKT.out.1 1 _ rfl)
  have z2 : V.drew.cell? ⟨w.heap.size, 2, none⟩ = some (.int .i64 t.foot) := Zg ed (HKT.out.1 2 _ rfl)
  have z3 : V.drew.cell? ⟨w.heap.size, 3, none⟩ = some (.slice A' t.rows.length c') := Zg ed (HKT.out.1 3 _ rfl)
  have z4 : V.drew.cell? ⟨w.heap.size, 4, none⟩ = some (.int .i64 t.gap) := Zg ed (HKT.out.1 4 _ rfl)
  have y0 : V.drew.cell? ⟨w2.heap.size, 0, none⟩ = some (.int .i64 t.rows.length) := Zg ed (HKG.out.1 0 _ rfl)
  have y1 : V.drew.cell? ⟨w2.heap.size, 1, none⟩ = some (.int .i64 n) := Zg ed (HKG.out.1 1 _ rfl)
  have y2 : V.drew.cell? ⟨w2.heap.size, 2, none⟩ = some (.slice GA GL.length gc) := Zg ed (HKG.out.1 2 _ rfl)
  have HGD := Za (HGV.out.below ed)
  have HL6 := Za (fun (W : World) (h : Below V.drew.heap.size V.drew W) => hL W (step HBD.out h) GA gc (HGD.out.below h))
  have HL7 := Za (fun (W : World) (h : Below V.drew.heap.size V.drew W) XA xc hX => hLL W (step HBD.out h) GA gc XA xc (HGD.out.below h) hX)
  have HLN := Za hln
  clear ed hL hLL hln
  have HR7 := Za (fun (W : World) (h : Below V.drew.heap.size V.drew W) LA lc hL9 => hRR W (step HBD.out h) GA gc LA lc (HGD.out.below h) hL9)
  clear hRR
  obtain ⟨KF, hKF⟩ : ∃ f : Nat → Value → World → Prop, f = (fun j v W => match j with | 0 => v = .agg #[.int .i64 t.rows.length, .int .i64 n, .slice GA GL.length gc] | 1 => v = .agg #[.slice A t.cols.length c, .int .i64 t.head, .int .i64 t.foot, .slice A' t.rows.length c', .int .i64 t.gap] | 2 => v = .agg #[.int .i64 t.rows.length, .int .i64 n, .slice GA GL.length gc] | 3 => v = .agg #[.slice A t.cols.length c, .int .i64 t.head, .int .i64 t.foot, .slice A' t.rows.length c', .int .i64 t.gap] | 4 => v = .agg #[.int .i64 t.rows.length, .int .i64 n, .slice GA GL.length gc] | 5 => v = .int .i64 width | 6 => ∃ Aq dq, v = .slice Aq X.length dq ∧ Rd Za4 W Aq X | 7 => ∃ Ar dr, v = .slice Ar GL.length dr ∧ Ql (α := ByteArray) W V.drew.heap.size 44 9 1 Zci (.slice Ar GL.length dr) LN | 8 => ∃ As ds, v = .slice As t.rows.length ds ∧ Zn W V.drew.heap.size (.slice As t.rows.length ds) (Qr (Qf GL LN) t.rows.length (List.replicate t.rows.length 0)) | 9 => ∃ At dt, v = .slice At t.rows.length dt ∧ Zn W V.drew.heap.size (.slice At t.rows.length dt) (Qr (Qf GL LN) t.rows.length (List.replicate t.rows.length 0)) | _ => True) := ⟨_, rfl⟩
  have KK := Za (kf hKF)
  have HST : Yw KF := by
   rw [hKF]
   intro j v W W9 h hb
   by_cases hjn : j < 10
   ·
    obtain rfl|rfl|rfl|rfl|rfl|rfl|rfl|rfl|rfl|rfl : j = 0 ∨ j = 1 ∨ j = 2 ∨ j = 3 ∨ j = 4 ∨ j = 5 ∨ j = 6 ∨ j = 7 ∨ j = 8 ∨ j = 9 := by omega
    · exact h
    · exact h
    · exact h
    · exact h
    · exact h
    · exact h
    · obtain ⟨Aq, dq, hv, h⟩ := h
      exact ⟨Aq, dq, hv, h.below hb⟩
    · obtain ⟨Ar, dr, hv, h⟩ := h
      exact ⟨Ar, dr, hv, h.below hb⟩
    · obtain ⟨As, ds, hv, h⟩ := h
      exact ⟨As, ds, hv, h.below hb⟩
    obtain ⟨At, dt, hv, h⟩ := h
    exact ⟨At, dt, hv, h.below hb⟩
   obtain ⟨k, rfl⟩ : ∃ k, j = k + 10 := ⟨j - 10, by omega⟩
   exact h
  clear hKF
  obtain ⟨dep, hdep⟩ : ∃ f : Nat → List Nat, f = (fun j => match j with | 6 => [3, 4, 5] | 7 => [1, 2, 6] | 8 => [0, 7] | 9 => [8] | _ => []) := ⟨_, rfl⟩
  have DD := Za hdep
  clear hdep
  have HLD : Yt 10 10 dep := Zgw (by decide)
  obtain ⟨st, hst⟩ : ∃ f : Nat → Value, f = (fun j => match j with | 0 => undef | 1 => undef | 2 => undef | 3 => undef | 4 => undef | 5 => undef | 6 => undef | 7 => undef | 8 => undef | 9 => .slice none 0 0 | _ => undef) := ⟨_, rfl⟩
  have ST := Za hst
  clear hst
  refine Qe (fun l a W => ∃ vs : Nat → Value, a = ⟨List.toArray ((Ya A t c A' c') :: .int .i64 width :: .pointer (some ⟨w.heap.size, 0, none⟩) :: Zb :: vs 9 :: .pointer (some ⟨w2.heap.size, 0, none⟩) :: (Ya A t c A' c') :: .bool true :: .bool false :: .bool false :: .int .i64 width :: .bool true :: .bool false :: .bool false :: Zb :: (Ya A t c A' c') :: .agg #[.int .i64 ↑t.rows.length, .int .i64 ↑n, .slice GA GL.length gc] :: vs 0 :: vs 1 :: vs 2 :: vs 3 :: vs 4 :: vs 5 :: vs 6 :: vs 7 :: vs 8 :: []), []⟩ ∧ Yp KF 10 10 dep (V.drew) (fun _ _ _ => True) st l vs W) (by kernel_rfl) ?top ?start ?step ?fin
  case top => exact Zae (by kernel_rfl)
  case start => exact ⟨st, by rw [ST.out]; first | done | rfl, Yp.start⟩
  case step =>
   rintro l a W i o ho hl hpre hsz ⟨vs, rfl, hM0⟩ K hK
   have hi : i < 10 := (Array.getElem?_eq_some_iff.1 ho).1
   obtain rfl|rfl|rfl|rfl|rfl|rfl|rfl|rfl|rfl|rfl := Zve hi
   all_goals
    simp only [List.getElem?_toArray, List.getElem?_cons_zero, List.getElem?_cons_succ, Option.some.injEq] at ho
    subst ho
    have hMB := hM0.below HLD hi (by decide) hl
    have hMG := hM0.get HLD hi (by decide) hl
    have hV := Zsd KK hMG hpre
    try have stl := hM0.sti HLD HST KK DD hpre hi (by decide) hl
   · have x0 := Zg hMB y0
     have x1 := Zg hMB y1
     have x2 := Zg hMB y2
     go_simp
     exact hK.out _ _ ⟨Zd vs 0 _, rfl, stl _ rfl rfl⟩
   ·
    have x0 := Zg hMB z0
    have x1 := Zg hMB z1
    have x2 := Zg hMB z2
    have x3 := Zg hMB z3
    have x4 := Zg hMB z4
    go_simp
    exact hK.out _ _ ⟨Zd vs 1 _, rfl, stl _ rfl rfl⟩
   · have x0 := Zg hMB y0
     have x1 := Zg hMB y1
     have x2 := Zg hMB y2
     go_simp
     exact hK.out _ _ ⟨Zd vs 2 _, rfl, stl _ rfl rfl⟩
   ·
    have x0 := Zg hMB z0
    have x1 := Zg hMB z1
    have x2 := Zg hMB z2
    have x3 := Zg hMB z3
    have x4 := Zg hMB z4
    go_simp
    exact hK.out _ _ ⟨Zd vs 3 _, rfl, stl _ rfl rfl⟩
   · have x0 := Zg hMB y0
     have x1 := Zg hMB y1
     have x2 := Zg hMB y2
     go_simp
     exact hK.out _ _ ⟨Zd vs 4 _, rfl, stl _ rfl rfl⟩
   · go_simp
     exact hK.out _ _ ⟨Zd vs 5 _, rfl, stl _ rfl rfl⟩
   ·
    have v3 : vs 3 = .agg #[.slice A t.cols.length c, .int .i64 t.head, .int .i64 t.foot, .slice A' t.rows.length c', .int .i64 t.gap] := hV 3 rfl
    have v4 : vs 4 = .agg #[.int .i64 t.rows.length, .int .i64 n, .slice GA GL.length gc] := hV 4 rfl
    have v5 : vs 5 = .int .i64 width := hV 5 rfl
    have hdp := dpa DD hpre 6 rfl
    rw [v3, v4, v5]
    go_simp
    refine (HL6.out _ hMB).mono ?_
    rintro e5 W5 ⟨v5, rfl, hI5, hb5⟩
    obtain ⟨A5, d5, rfl⟩ := hI5.form
    exact hK.out _ _ ⟨Zd vs 6 (.slice A5 X.length d5), (by simp [Zd, v3, v4, v5]), hM0.next HLD HST 6 (by decide) (by decide) hl _ hdp hb5 ((KK.out 6 _ _).2 ⟨A5, d5, rfl, (Qq hI5)⟩)⟩
   ·
    have v1 : vs 1 = .agg #[.slice A t.cols.length c, .int .i64 t.head, .int .i64 t.foot, .slice A' t.rows.length c', .int .i64 t.gap] := hV 1 rfl
    have v2 : vs 2 = .agg #[.int .i64 t.rows.length, .int .i64 n, .slice GA GL.length gc] := hV 2 rfl
    obtain ⟨Aq, dq, v6, q6⟩ := hV 6 rfl
    have hdp := dpa DD hpre 7 rfl
    rw [v1, v2, v6]
    go_simp
    refine (HL7.out _ hMB Aq dq q6).mono ?_
    rintro e5 W5 ⟨v5, rfl, hN5, hb5⟩
    obtain ⟨A5, d5, rfl⟩ := hN5.form
    rw [HLN.out]
    exact hK.out _ _ ⟨Zd vs 7 (.slice A5 GL.length d5), (by simp [Zd, v1, v2, v6]), hM0.next HLD HST 7 (by decide) (by decide) hl _ hdp hb5 ((KK.out 7 _ _).2 ⟨A5, d5, rfl, (by have h9 := hN5.rebase hMB.size; rw [HLN.out] at h9; exact h9)⟩)⟩
   ·
    have v0 : vs 0 = .agg #[.int .i64 t.rows.length, .int .i64 n, .slice GA GL.length gc] := hV 0 rfl
    obtain ⟨Ar, dr, v7, q7⟩ := hV 7 rfl
    have hdp := dpa DD hpre 8 rfl
    rw [v0, v7]
    go_simp
    refine (HR7.out _ hMB Ar dr (Zjf (enc := Zci) (k := 1) (hk := fun _ => rfl) q7)).mono ?_
    rintro e5 W5 ⟨v5, rfl, hN5, hb5⟩
    obtain ⟨A5, d5, e5'⟩ := hN5.form
    rw [Zbi] at e5'
    subst e5'
    exact hK.out _ _ ⟨Zd vs 8 (.slice A5 t.rows.length d5), (by simp [Zd, v0, v7]), hM0.next HLD HST 8 (by decide) (by decide) hl _ hdp hb5 ((KK.out 8 _ _).2 ⟨A5, d5, rfl, (hN5.base hMB.size)⟩)⟩
   obtain ⟨As, ds, v8, q8⟩ := hV 8 rfl
   have hdp := dpa DD hpre 9 rfl
   rw [v8]
   go_simp
   exact hK.out _ _ ⟨Zd vs 9 (.slice As t.rows.length ds), (by simp [Zd, v8]), hM0.still HLD HST 9 (by decide) (by decide) hl _ hdp ((KK.out 9 _ _).2 ⟨As, ds, rfl, q8⟩)⟩
  rintro l a W4 hall ⟨vs4, rfl, hM0⟩
  obtain ⟨hMB, hMG⟩ := hM0.fin0 (by decide) hall
  have HBW := Za hMB
  obtain ⟨At, dt, v9, q9⟩ := (KK.out 9 _ _).1 (hMG 9 (by decide))
  rw [v9]
  clear KK DD ST HLD HST hMG v9 hMB hall hM0 st
  have HQ := Za q9
  clear q9
  go_wp2_with fail
  go_ret
  exact ⟨_, rfl, HQ.out.base HBD.out.size, step HBD.out HBW.out⟩
 have hres : Zcc t width = [] := if_neg hq
 rw [hres]
 have hdef : Qn t = false ∨ (Qn t = true ∧ inB width 0 300 = false) := by
  cases hok : Qn t with
  | false => exact .inl rfl
  | true =>
   refine .inr ⟨rfl, ?_⟩
   rw [Bool.eq_false_iff]
   intro h8
   simp [inB] at h8
   exact hq ⟨hok, by omega, by omega⟩
 clear hres hc hr hy hq
 rcases hdef with hok | ⟨hok, hb1⟩
 ·
  rw [hok] at hT
  clear hok
  go_enter Tryz.func23, Tryz.ntmps23
  go_wp2_with fail
  refine (hT _ (Zc (Zf _) _)).mono ?_
  rintro e w1 ⟨rfl, hb⟩
  have HB := Za (step (Zc (Zf w) _) hb)
  have HM := Za ((show Zn (w1.alloc (.cells #[] 3)) w.heap.size (.slice (some ⟨w1.heap.size, 0, none⟩) 0 0) [] from Jw (World.ownsRow_made (e := 3) (size := 1) w1 #[] 0 (Nat.le_refl _) (Nat.zero_le _) (by simp)) HB.out.size))
  clear hb hT
  go_wp2_with fail
  go_ret
  exact ⟨_, rfl, HM.out, Zc HB.out _⟩
 rw [hok] at hT
 rw [hb1] at hI
 clear hok hb1
 go_enter Tryz.func23, Tryz.ntmps23
 go_wp2_with fail
 refine (hT _ (Zc (Zf _) _)).mono ?_
 rintro e w1 ⟨rfl, hb⟩
 have HB := Za (step (Zc (Zf w) _) hb)
 have HM := Za ((show Zn (w1.alloc (.cells #[] 3)) w.heap.size (.slice (some ⟨w1.heap.size, 0, none⟩) 0 0) [] from Jw (World.ownsRow_made (e := 3) (size := 1) w1 #[] 0 (Nat.le_refl _) (Nat.zero_le _) (by simp)) HB.out.size))
 clear hb hT
 go_wp2_with (go_at_call 78; refine (hI _).mono ?_; rintro e w' ⟨rfl, rfl⟩)
 go_ret
 exact ⟨_, rfl, HM.out, Zc HB.out _⟩
def Zqo (R N : Nat) (w : World) (e : Ending) (w' : World) : Prop := ∃ q : Int, e = .returned (.int .i64 q) ∧ (-1 ≤ q ∧ q ≤ 301) ∧ Qh w' R N ∧ w.grownBy w' (some R)
theorem Zbe {R N N' : Nat} {w w' : World} {q : Int} (hq : -1 ≤ q ∧ q ≤ 301) (h : Qh w' R N) (hN : N ≤ N') (hg : w.grownBy w' (some R)) : Zqo R N' w (.returned (.int .i64 q)) w' := ⟨q, rfl, hq, h.mono hN, hg⟩
theorem Zt6 (R N : Nat) (w : World) (h : Qh w R N) (hN : N ≤ 900000) : Calls Tryz.prog 130 #[.pointer (some ⟨R, 0, none⟩), .int .i64 16] w (Zqo R (N + 3) w) := by
 have hRl := h.lt
 have HR := Za h
 clear h
 go_enter Tryz.func130, Tryz.ntmps130
 go_wp2_with fail
 refine (pick R _ 16 _ HR.out (by omega) (by decide)).mono ?_
 rintro e W1 ⟨q0, rfl, _, _, hR1, hg1⟩
 have hRl1 := hR1.lt
 by_cases z : q0 = 0
 ·
  subst z
  obtain ⟨V, hV⟩ : ∃ V, V = W1.alloc (.cells #[.int .i64 (-1), .int .i64 301, .int .i64 300] 3) := ⟨_, rfl⟩
  have eV : Below W1.heap.size W1 V := by rw [hV]; exact Zc (Zf _) _
  have hKV : Zh V W1.heap.size [.int .i64 (-1), .int .i64 301, .int .i64 300] := by rw [hV]; exact Zh.new W1 _ _
  have hzV : V.heap.size = W1.heap.size + 1 := by rw [hV]; simp
  have HRV := Za (hR1.below eV)
  have HGV := Za (Zk hg1 (Qd eV))
  have HKV := Za hKV
  have HV := Za hV
  clear hV eV hKV hR1 hg1
  go_wp2_with fail
  rw [← HV.out]
  refine (pick R _ 3 _ HRV.out (by omega) (by decide)).mono ?_
  rintro e W2 ⟨q, rfl, hq0, hq1, hR2, hg2⟩
  have hq3 := hq1 (by decide)
  have hK2 := HKV.out.keep (Qm hg2 (by omega) (by omega))
  have HR2 := Za hR2
  have HG2 := Za (Zk HGV.out hg2)
  clear hq1 hR2 hg2
  obtain rfl|rfl|rfl : q = 0 ∨ q = 1 ∨ q = 2 := by omega
  · have c0 := hK2.1 0 _ rfl
    clear hK2
    go_wp2_with fail
    go_ret
    exact Zbe (by omega) HR2.out (by omega) HG2.out
  · have c0 := hK2.1 1 _ rfl
    clear hK2
    go_wp2_with fail
    go_ret
    exact Zbe (by omega) HR2.out (by omega) HG2.out
  have c0 := hK2.1 2 _ rfl
  clear hK2
  go_wp2_with fail
  go_ret
  exact Zbe (by omega) HR2.out (by omega) HG2.out
 have e0 : ((q0 : Int) == 0) = false := by simpa using z
 have HR1 := Za hR1
 have HG1 := Za hg1
 clear hR1 hg1
 go_wp2_with fail
 refine (pick R _ 100 _ HR1.out (by omega) (by decide)).mono ?_
 rintro e W2 ⟨y, rfl, hy0, hy1, hR2, hg2⟩
 have hy3 := hy1 (by decide)
 have hRl2 := hR2.lt
 obtain ⟨V, hV⟩ : ∃ V, V = W2.alloc (.cells #[.int .i64 0, .int .i64 10, .int .i64 25, .int .i64 40, .int .i64 60, .int .i64 80, .int .i64 120, .int .i64 y] 3) := ⟨_, rfl⟩
 have eV : Below W2.heap.size W2 V := by rw [hV]; exact Zc (Zf _) _
 have hKV : Zh V W2.heap.size [.int .i64 0, .int .i64 10, .int .i64 25, .int .i64 40, .int .i64 60, .int .i64 80, .int .i64 120, .int .i64 y] := by rw [hV]; exact Zh.new W2 _ _
 have hzV : V.heap.size = W2.heap.size + 1 := by rw [hV]; simp
 have HRV := Za (hR2.below eV)
 have HGV := Za (Zk (Zk HG1.out hg2) (Qd eV))
 have HKV := Za hKV
 have HV := Za hV
 clear hV eV hKV hR2 hg2 hy1 z e0
 go_wp2_with fail
 rw [← HV.out]
 refine (pick R _ 8 _ HRV.out (by omega) (by decide)).mono ?_
 rintro e W3 ⟨q, rfl, hq0, hq1, hR3, hg3⟩
 have hq3 := hq1 (by decide)
 have hK3 := HKV.out.keep (Qm hg3 (by omega) (by omega))
 have HR3 := Za hR3
 have HG3 := Za (Zk HGV.out hg3)
 clear hq1 hR3 hg3
 obtain rfl|rfl|rfl|rfl|rfl|rfl|rfl|rfl : q = 0 ∨ q = 1 ∨ q = 2 ∨ q = 3 ∨ q = 4 ∨ q = 5 ∨ q = 6 ∨ q = 7 := by omega
 ·
  have c0 := hK3.1 0 _ rfl
  clear hK3
  go_wp2_with fail
  go_ret
  exact Zbe (by omega) HR3.out (by omega) HG3.out
 ·
  have c0 := hK3.1 1 _ rfl
  clear hK3
  go_wp2_with fail
  go_ret
  exact Zbe (by omega) HR3.out (by omega) HG3.out
 ·
  have c0 := hK3.1 2 _ rfl
  clear hK3
  go_wp2_with fail
  go_ret
  exact Zbe (by omega) HR3.out (by omega) HG3.out
 ·
  have c0 := hK3.1 3 _ rfl
  clear hK3
  go_wp2_with fail
  go_ret
  exact Zbe (by omega) HR3.out (by omega) HG3.out
 ·
  have c0 := hK3.1 4 _ rfl
  clear hK3
  go_wp2_with fail
  go_ret
  exact Zbe (by omega) HR3.out (by omega) HG3.out
 ·
  have c0 := hK3.1 5 _ rfl
  clear hK3
  go_wp2_with fail
  go_ret
  exact Zbe (by omega) HR3.out (by omega) HG3.out
 ·
  have c0 := hK3.1 6 _ rfl
  clear hK3
  go_wp2_with fail
  go_ret
  exact Zbe (by omega) HR3.out (by omega) HG3.out
 have c0 := hK3.1 7 _ rfl
 clear hK3
 go_wp2_with fail
 go_ret
 exact Zbe (by omega) HR3.out (by omega) HG3.out
def Zkm (R N : Nat) (w : World) (e : Ending) (w' : World) : Prop :=
 ∃ (t : Tbl) (vc vr : Value) (k : Int), e = .returned (.tuple #[.agg #[vc, .int .i64 t.head, .int .i64 t.foot, vr, .int .i64 t.gap], .int .i64 k]) ∧ Zb2 t ∧ (-1 ≤ k ∧ k ≤ 301) ∧ Qh w' R N ∧ w.grownBy w' (some R) ∧ Ju w' w.heap.size vc vr t
theorem Zsh {R N N' : Nat} {w W : World} {vc vr : Value} {t : Tbl} {k : Int} (hb : Zb2 t) (hk : -1 ≤ k ∧ k ≤ 301) (hR : Qh W R N) (hN : N ≤ N') (hg : w.grownBy W (some R)) (ho : Ju W w.heap.size vc vr t) :
 Zkm R N' w (.returned (.tuple #[.agg #[vc, .int .i64 t.head, .int .i64 t.foot, vr, .int .i64 t.gap], .int .i64 k])) W := ⟨t, vc, vr, k, rfl, hb, hk, hR.mono hN, hg, ho⟩
end Go.Proofs.YtgdmcmicfoamlaaGreatDoor
