import Derived.Test.YtgdmcmicfoamlaaGreatDoorMixHd
set_option linter.unusedVariables false
set_option linter.unusedSimpArgs false
set_option maxHeartbeats 40000000
set_option maxRecDepth 100000
namespace Go.Proofs.YtgdmcmicfoamlaaGreatDoor
open Go.RowKit
def Zar (t : Tbl) (width : Int) : List (List ByteArray) := if Qn t = true ∧ 0 ≤ width ∧ width ≤ 300 then Zy t (Zp 400 t).1 (Zz 400 t width) else []
def Zcc (t : Tbl) (width : Int) : List Int := if Qn t = true ∧ 0 ≤ width ∧ width ≤ 300 then Zcv (Zp 400 t).1 (Zy t (Zp 400 t).1 (Zz 400 t width)) t.rows.length t.rows.length else []
theorem Zub (A A' A1 A2 A3 A4 : Option Addr) (a c a' c' a1 c1 a2 c2 a3 c3 a4 c4 : Nat) (h f g r m : Int) (W : World) : (Instr.field 92 (.agg #[.slice A a c, .int .i64 h, .int .i64 f, .slice A' a' c', .int .i64 g, .int .i64 r, .int .i64 m, .slice A1 a1 c1, .slice A2 a2 c2, .slice A3 a3 c3, .slice A4 a4 c4]) 3).run Tryz.prog W = .ok (.slice A3 a3 c3) W := by kernel_rfl
theorem Zuk (A A' A1 A2 A3 A4 : Option Addr) (a c a' c' a1 c1 a2 c2 a3 c3 a4 c4 : Nat) (h f g r m : Int) (W : World) : (Instr.field 92 (.agg #[.slice A a c, .int .i64 h, .int .i64 f, .slice A' a' c', .int .i64 g, .int .i64 r, .int .i64 m, .slice A1 a1 c1, .slice A2 a2 c2, .slice A3 a3 c3, .slice A4 a4 c4]) 4).run Tryz.prog W = .ok (.slice A4 a4 c4) W := by kernel_rfl
theorem Znm {t : Tbl} {width : Int} (hq : ¬ (Qn t = true ∧ 0 ≤ width ∧ width ≤ 300)) : (Qn t && inB width 0 300) = false := by
 rw [Bool.eq_false_iff]
 intro h9
 rw [Bool.and_eq_true] at h9
 have h8 := h9.2
 simp [inB] at h8
 exact hq ⟨h9.1, by omega, by omega⟩
theorem Zk5 (t : Tbl) (A : Option Addr) (c : Nat) (A' : Option Addr) (c' : Nat) (width : Int) (w : World) (hw : Zb9 w) (hc : Rd Zbz w A t.cols) (hr : Rd Zbp w A' t.rows) {k : Nat} (hy : Zdt t k) :
 Calls Tryz.prog 21 #[.agg #[.slice A t.cols.length c, .int .i64 t.head, .int .i64 t.foot, .slice A' t.rows.length c', .int .i64 t.gap], .int .i64 width] w fun e w' => ∃ v, e = .returned v ∧ Ql (α := ByteArray) w' w.heap.size 44 9 1 Zci v (Zar t width) ∧ Below w.heap.size w w' := by
 have hT := fun (W : World) (h : Below w.heap.size w W) => Zhc t A c A' c' width W (hw.below h) (hc.below h) (hr.below h)
 by_cases hq : Qn t = true ∧ 0 ≤ width ∧ width ≤ 300
 ·
  have hb1 : (Qn t && inB width 0 300) = true := by rw [hq.1]; simp [inB]; omega
  rw [hb1] at hT
  have hres : Zar t width = Zy t (Zp 400 t).1 (Zz 400 t width) := if_pos hq
  rw [hres]
  have hL := fun (W : World) (h : Below w.heap.size w W) => Znv t A c A' c' width W hq.1 (hw.below h) (hc.below h) (hr.below h) hq.2 hy
  generalize Zcv (Zp 400 t).1 (Zy t (Zp 400 t).1 (Zz 400 t width)) t.rows.length t.rows.length = RW at hL
  generalize Zy t (Zp 400 t).1 (Zz 400 t width) = LN at hL ⊢
  generalize Zz 400 t width = X at hL
  generalize Zp 400 t = GG at hL
  obtain ⟨GL, GN⟩ := GG
  dsimp only at hL
  clear hres hc hr hw hy hb1 hq
  go_enter Tryz.func21, Tryz.ntmps21
  go_wp2_with fail
  refine (hT _ (Zc (Zf _) _)).mono ?_
  rintro e w1 ⟨rfl, hb⟩
  obtain ⟨c0, f0, s0⟩ := Jc w.heap.size (by simp) hb
  have HB := Za (step (Zc (Zf w) _) hb)
  have hL1 := hL w1 HB.out
  clear hT hL hb
  go_wp2_with fail
  refine hL1.mono ?_
  rintro e w2 ⟨m, vg, vc, vl, vr, hm, rfl, hLA, hb2⟩
  obtain ⟨A1, c1, rfl⟩ := Zbc hLA.grid
  obtain ⟨A2, c2, rfl⟩ := hLA.cols.form
  obtain ⟨A3, c3, rfl⟩ := hLA.lines.form
  obtain ⟨A4, c4, rfl⟩ := hLA.rows.form
  have hf := Zub
  have HN := Za (hLA.lines.rebase HB.out.size)
  have HB2 := Za (step HB.out hb2)
  clear hLA hL1 hm hb2
  go_wp2_with fail
  go_ret
  exact ⟨_, rfl, HN.out, HB2.out⟩
 have hb1 := Znm hq
 rw [hb1] at hT
 have hres : Zar t width = [] := if_neg hq
 rw [hres]
 clear hres hc hr hw hy hb1 hq
 go_enter Tryz.func21, Tryz.ntmps21
 go_wp2_with fail
 refine (hT _ (Zc (Zf _) _)).mono ?_
 rintro e w1 ⟨rfl, hb⟩
 go_wp2_with fail
 go_ret
 exact ⟨_, rfl, Ql.nil, step (Zc (Zf _) _) hb⟩
theorem Zm7 (t : Tbl) (A : Option Addr) (c : Nat) (A' : Option Addr) (c' : Nat) (width : Int) (w : World) (hw : Zb9 w) (hc : Rd Zbz w A t.cols) (hr : Rd Zbp w A' t.rows) {k : Nat} (hy : Zdt t k) :
 Calls Tryz.prog 20 #[.agg #[.slice A t.cols.length c, .int .i64 t.head, .int .i64 t.foot, .slice A' t.rows.length c', .int .i64 t.gap], .int .i64 width] w fun e w' => ∃ v, e = .returned v ∧ Zn w' w.heap.size v (Zcc t width) ∧ Below w.heap.size w w' := by
 have hT := fun (W : World) (h : Below w.heap.size w W) => Zhc t A c A' c' width W (hw.below h) (hc.below h) (hr.below h)
 by_cases hq : Qn t = true ∧ 0 ≤ width ∧ width ≤ 300
 ·
  have hb1 : (Qn t && inB width 0 300) = true := by rw [hq.1]; simp [inB]; omega
  rw [hb1] at hT
  have hres : Zcc t width = Zcv (Zp 400 t).1 (Zy t (Zp 400 t).1 (Zz 400 t width)) t.rows.length t.rows.length := if_pos hq
  rw [hres]
  have hL := fun (W : World) (h : Below w.heap.size w W) => Znv t A c A' c' width W hq.1 (hw.below h) (hc.below h) (hr.below h) hq.2 hy
  generalize Zcv (Zp 400 t).1 (Zy t (Zp 400 t).1 (Zz 400 t width)) t.rows.length t.rows.length = RW at hL ⊢
  generalize Zy t (Zp 400 t).1 (Zz 400 t width) = LN at hL
  generalize Zz 400 t width = X at hL
  generalize Zp 400 t = GG at hL
  obtain ⟨GL, GN⟩ := GG
  dsimp only at hL
  clear hres hc hr hw hy hb1 hq
  go_enter Tryz.func20, Tryz.ntmps20
  go_wp2_with fail
  refine (hT _ (Zc (Zf _) _)).mono ?_
  rintro e w1 ⟨rfl, hb⟩
  obtain ⟨c0, f0, s0⟩ := Jc w.heap.size (by simp) hb
  have HB := Za (step (Zc (Zf w) _) hb)
  have hL1 := hL w1 HB.out
  clear hT hL hb
  go_wp2_with fail
  refine hL1.mono ?_
  rintro e w2 ⟨m, vg, vc, vl, vr, hm, rfl, hLA, hb2⟩
  obtain ⟨A1, c1, rfl⟩ := Zbc hLA.grid
  obtain ⟨A2, c2, rfl⟩ := hLA.cols.form
  obtain ⟨A3, c3, rfl⟩ := hLA.lines.form
  obtain ⟨A4, c4, rfl⟩ := hLA.rows.form
  have hf := Zuk
  have HN := Za (hLA.rows.base HB.out.size)
  have HB2 := Za (step HB.out hb2)
  clear hLA hL1 hm hb2
  go_wp2_with fail
  go_ret
  exact ⟨_, rfl, HN.out, HB2.out⟩
 have hb1 := Znm hq
 rw [hb1] at hT
 have hres : Zcc t width = [] := if_neg hq
 rw [hres]
 clear hres hc hr hw hy hb1 hq
 go_enter Tryz.func20, Tryz.ntmps20
 go_wp2_with fail
 refine (hT _ (Zc (Zf _) _)).mono ?_
 rintro e w1 ⟨rfl, hb⟩
 go_wp2_with fail
 go_ret
 exact ⟨_, rfl, Zn.nil _ _, step (Zc (Zf _) _) hb⟩
theorem Ziy (total : Int) (base : Nat) (A : Option Addr) (c : Nat) (ws : List Int) (w : World) (hI : Zn w base (.slice A ws.length c) ws) (h : Zoi total ws) (hn : 0 < ws.length) :
 Calls Tryz.prog 140 #[.int .i64 total, .slice A ws.length c] w fun e w' => ∃ v, e = .returned (.tuple #[v, .int .i64 (Jr total ws).2]) ∧ Zn w' w.heap.size v (Jr total ws).1 ∧ Below w.heap.size w w' := by
 obtain ⟨g, rfl⟩ : ∃ g, A = some ⟨g, 0, none⟩ := by
  obtain ⟨g, c2, e2, _, hgl, _⟩ := hI.at hn
  injection e2 with e2 _ _
  exact ⟨g, e2⟩
 have hSUM := Zay (some ⟨g, 0, none⟩) c ws w (Qq hI) (fun x hx => by have := h.2.1 x hx; omega) (by have := h.2.2; omega)
 have hSH := Zdh total (some ⟨g, 0, none⟩) c ws w (Qq hI) h hn
 have ht := h.1
 obtain ⟨s1, s2⟩ := Zey 100000 ws h.2.1
 have hl := h.2.2
 have HR := Za (Qq hI)
 obtain ⟨s, hs⟩ : ∃ s, Zq ws = s := ⟨_, rfl⟩
 rw [hs] at hSUM s1 s2
 have t1 := IntWalk.i64_in (total - s) (by omega)
 by_cases hle : s ≤ total
 ·
  have hup : Jr total ws = (ws, total - s) := by unfold Jr; rw [hs, if_pos hle]
  rw [hup]
  have hz : total ≥ s := hle
  obtain ⟨i0, hi, hz0, hz1, hz2⟩ := info_parts Yu
  obtain ⟨n, hnn⟩ : ∃ n, n = ws.length := ⟨_, rfl⟩
  have HN := Za hnn
  rw [← hnn] at hSUM hn hl ⊢
  clear hI h hs hup hSH hnn
  go_enter Tryz.func140, Tryz.ntmps140
  go_wp2_with fail
  refine hSUM.mono ?_
  rintro e w9 ⟨rfl, hw9⟩
  obtain rfl := hw9.symm
  clear hSUM
  go_wp2_with (first
   | (at_builtin; refine wpList_append_own _ rfl _ _ 29 rfl w.heap.size 3 i0 _ 1 8 Yl hi hz0 hz1 hz2 rfl (by decide) _ _ _ rfl (World.ownsRow_made w #[] 0 (Nat.le_refl _) (Nat.zero_le _) (by simp)) ⟨g, 0, none⟩ n c (ws.flatMap Zc5) rfl ?qc1 ?qc2 ?qc3 ?qc4 ?qc5 ?qc6 ?_))
  case qc1 => rw [Zbh Zc5 1 (fun _ => rfl), HN.out]
  case qc2 => exact Zji HR.out (Zc (Zf _) _)
  case qc3 => exact Zhe ws
  case qc4 => unfold maxLen; omega
  case qc5 => omega
  case qc6 => simp
  intro v' w1 hown hgrow _
  have HB1 := Za (((Below.refl _ w).alloc (Nat.le_refl _) (.cells #[] 3)).grown hgrow (by simp) (by intro k hk; simp [Value.ownBlock] at hk; omega))
  have hO1 : Zn w1 w.heap.size v' ws := by
   unfold Zn; rw [← HN.out]; simpa using hown
  have HO1 := Za hO1
  clear hown hgrow hO1 hi hz0 hz1 hz2
  go_wp2_with fail
  exact bodyPost_ret (v := .tuple #[v', .int .i64 (total - s)]) (by simp [results, Tryz.results140, go_sem, *]) rfl ⟨_, rfl, HO1.out, HB1.out⟩
 have hup : Jr total ws = (Ye total ws, 0) := by unfold Jr; rw [hs, if_neg hle]
 rw [hup]
 have hz : ¬ total ≥ s := hle
 clear hI h hs hup
 go_enter Tryz.func140, Tryz.ntmps140
 go_upto_region 4 with (go_at_call 96; refine hSUM.mono ?_; rintro e w9 ⟨rfl, hw9⟩; obtain rfl := hw9.symm)
 go_wp2_with fail
 refine hSH.mono ?_
 rintro e w3 ⟨v, rfl, hO, hb3⟩
 have HO := Za hO
 have HB3 := Za hb3
 clear hSH hSUM hO hb3
 go_wp2_with fail
 exact bodyPost_ret (v := .tuple #[v, .int .i64 0]) (by simp [results, Tryz.results140, go_sem, *]) rfl ⟨_, rfl, HO.out, HB3.out⟩
theorem Znf (f : Nat → Int) (q : Int) (n : Nat) : Zu f q (n + 1) = Zu f q n ++ [if f n = q then 1 else 0] := by
 unfold Zu
 rw [List.range_succ, List.map_append]
 rfl
theorem Zl9 (t : Tbl) (A : Option Addr) (c : Nat) (A' : Option Addr) (c' : Nat) (n : Nat) (q : Int) (w : World) (hc : Rd Zbz w A t.cols) (hn : n ≤ 1000) :
 Calls Tryz.prog 143 #[.agg #[.slice A t.cols.length c, .int .i64 t.head, .int .i64 t.foot, .slice A' t.rows.length c', .int .i64 t.gap], .int .i64 q, .int .i64 n] w fun e w' => ∃ v, e = .returned v ∧ Zn w' w.heap.size v (Zu (Zw t) q n) ∧ Below w.heap.size w w' := by
 have hS := fun (W : World) (h : Below w.heap.size w W) (k : Nat) => Zd5 t A c A' c' k W (hc.below h) (by omega)
 obtain ⟨V, hV⟩ : ∃ V, V = (w.alloc (.cells #[.slice A t.cols.length c, .int .i64 t.head, .int .i64 t.foot, .slice A' t.rows.length c', .int .i64 t.gap] 26)).alloc (.cells #[] 3) := ⟨_, rfl⟩
 have m1 : Zn V (w.heap.size + 1) (.slice (some ⟨w.heap.size + 1, 0, none⟩) 0 0) [] := by
  have e1 : (w.alloc (.cells #[.slice A t.cols.length c, .int .i64 t.head, .int .i64 t.foot, .slice A' t.rows.length c', .int .i64 t.gap] 26)).heap.size = w.heap.size + 1 := by simp
  have m0 : Zn ((w.alloc (.cells #[.slice A t.cols.length c, .int .i64 t.head, .int .i64 t.foot, .slice A' t.rows.length c', .int .i64 t.gap] 26)).alloc (.cells #[] 3)) (w.heap.size + 1) (.slice (some ⟨(w.alloc (.cells #[.slice A t.cols.length c, .int .i64 t.head, .int .i64 t.foot, .slice A' t.rows.length c', .int .i64 t.gap] 26)).heap.size, 0, none⟩) 0 0) [] := World.ownsRow_made (w.alloc (.cells #[.slice A t.cols.length c, .int .i64 t.head, .int .i64 t.foot, .slice A' t.rows.length c', .int .i64 t.gap] 26)) #[] 0 (by simp) (Nat.zero_le _) (by simp)
  rw [e1] at m0
  rw [hV]; exact m0
 have hB : Below w.heap.size w V := by rw [hV]; exact Zc (Zc (Zf _) _) _
 have hK : Zh V w.heap.size [.slice A t.cols.length c, .int .i64 t.head, .int .i64 t.foot, .slice A' t.rows.length c', .int .i64 t.gap] := by
  rw [hV]; exact (Zh.new w [.slice A t.cols.length c, .int .i64 t.head, .int .i64 t.foot, .slice A' t.rows.length c', .int .i64 t.gap] 26).keep ((Zc (Zf _) _).block w.heap.size (by simp))
 have hzV : V.heap.size = w.heap.size + 2 := by rw [hV]; simp
 have HM1 := Za m1
 have HB := Za hB
 have HK := Za hK
 have HV := Za hV
 have HZ := Za hzV
 clear m1 hB hK hV hc hzV
 have hfc := Zmv
 go_enter Tryz.func143, Tryz.ntmps143
 go_wp2_with fail
 rw [← HV.out]
 go_loopg [7, 8] n (fun gg s7 s8 wr => ∃ j : Nat, j ≤ n ∧ n - j ≤ gg ∧ s8 = .int .i64 j ∧ Aside (Zn wr (w.heap.size + 1) s7 (Zu (Zw t) q j)) ∧ Aside (Below w.heap.size w wr) ∧ Aside (Zh wr w.heap.size [.slice A t.cols.length c, .int .i64 t.head, .int .i64 t.foot, .slice A' t.rows.length c', .int .i64 t.gap]) ∧ w.heap.size + 2 ≤ wr.heap.size)
 case atStart => exact ⟨0, Nat.zero_le _, by omega, rfl, HM1.out, HB.out, HK.out, by rw [HZ.out]; exact Nat.le_refl _⟩
 obtain ⟨j, hj, hgg, rfl, HO, HBW, HKW, hsz⟩ := hrel
 by_cases hlt : j < n
 ·
  have hltz : (j : Int) < (n : Int) := by omega
  have y0 := HKW.out.1 0 _ rfl
  have y1 := HKW.out.1 1 _ rfl
  have y2 := HKW.out.1 2 _ rfl
  have y3 := HKW.out.1 3 _ rfl
  have y4 := HKW.out.1 4 _ rfl
  have hSj := hS wr HBW.out j
  have HSU := Za (Znf (Zw t) q j)
  obtain ⟨k0, hk0⟩ : ∃ k0, (Yc t j).k = k0 := ⟨_, rfl⟩
  have hk1 : Zw t j = k0 := hk0
  rw [hk0] at hSj
  have HK1 := Za hk1
  have hol : (Zu (Zw t) q j).length ≤ 1000000 := by unfold Zu; simp; omega
  have HOL := Za hol
  clear hk0 hk1 hol
  go_wp2_with fail
  refine hSj.mono ?_
  rintro e w5 ⟨rfl, hb5⟩
  have HB5 := Za (step HBW.out hb5)
  have HO5 := Za (HO.out.below hb5)
  have HK5 := Za (HKW.out.keep (hb5.block w.heap.size (by omega)))
  have hsz5 : w.heap.size + 2 ≤ w5.heap.size := Nat.le_trans hsz hb5.size
  clear y0 y1 y2 y3 y4 hSj hb5
  by_cases h1 : k0 = q
  ·
   have h1z : (k0 == q) = true := by simp [h1]
   have HS2 := Za (show Zu (Zw t) q j ++ [(1 : Int)] = Zu (Zw t) q (j + 1) by rw [HSU.out, HK1.out, if_pos h1])
   go_wp2_with (at_builtin; refine Ji rfl (.tmp 21) (.tmp 22) rfl (w.heap.size + 1) _ (Zu (Zw t) q j) rfl (HO5.out.below (Zc (Zf _) _)) ⟨w5.heap.size, 0, none⟩ 1 1 rfl (Zj _ _ _ _ 0 _ rfl) HOL.out (by simp; omega) ?_)
   intro v' w6 H1 H2 H3
   have HB6 : Hid (Below w.heap.size w w6) := (Zc HB5.out (.cells #[.int .i64 1] 3)).trans (Qg H2.out (by simp; omega) (fun b hb => by have := (HO5.out.lt hb).1; omega))
   have HK6 := Za ((HK5.out.keep ((Zc (Zf w5) (.cells #[.int .i64 1] 3)).block w.heap.size (by omega))).keep (H2.out.block w.heap.size (by simp; omega) (fun e => by have := (HO5.out.lt e.symm).1; omega)))
   have hsz6 : w.heap.size + 2 ≤ w6.heap.size := by have := H2.out.size; simp at this; omega
   rw [HS2.out] at H1
   clear H2 H3 HB5 HO5 HK5 HO HBW HKW HS2 HSU HOL
   go_wp2_with fail
   go_roundg (n - (j + 1))
   case measure => omega
   case rel => exact ⟨j + 1, by omega, by omega, by go_num, H1.out, HB6.out, HK6.out, hsz6⟩
  have h1z : (k0 == q) = false := by simp [h1]
  have HS2 := Za (show Zu (Zw t) q j ++ [(0 : Int)] = Zu (Zw t) q (j + 1) by rw [HSU.out, HK1.out, if_neg h1])
  go_wp2_with (at_builtin; refine Ji rfl (.tmp 24) (.tmp 25) rfl (w.heap.size + 1) _ (Zu (Zw t) q j) rfl (HO5.out.below (Zc (Zf _) _)) ⟨w5.heap.size, 0, none⟩ 1 0 rfl (Zj _ _ _ _ 0 _ rfl) HOL.out (by simp; omega) ?_)
  intro v' w6 H1 H2 H3
  have HB6 : Hid (Below w.heap.size w w6) := (Zc HB5.out (.cells #[.int .i64 0] 3)).trans (Qg H2.out (by simp; omega) (fun b hb => by have := (HO5.out.lt hb).1; omega))
  have HK6 := Za ((HK5.out.keep ((Zc (Zf w5) (.cells #[.int .i64 0] 3)).block w.heap.size (by omega))).keep (H2.out.block w.heap.size (by simp; omega) (fun e => by have := (HO5.out.lt e.symm).1; omega)))
  have hsz6 : w.heap.size + 2 ≤ w6.heap.size := by have := H2.out.size; simp at this; omega
  rw [HS2.out] at H1
  clear H2 H3 HB5 HO5 HK5 HO HBW HKW HS2 HSU HOL
  go_wp2_with fail
  go_roundg (n - (j + 1))
  case measure => omega
  case rel => exact ⟨j + 1, by omega, by omega, by go_num, H1.out, HB6.out, HK6.out, hsz6⟩
 have hltz : ¬ (j : Int) < (n : Int) := by omega
 have hjn := Za (show j = n by omega)
 go_wp2_with fail
 go_ret
 exact ⟨_, rfl, by rw [← hjn.out]; exact HO.out.base (by omega), HBW.out⟩
theorem Ze7 (A : Option Addr) (c : Nat) (A' : Option Addr) (c' n : Nat) (X Y : List Int) (w : World) (hr : Rd Za4 w A X) (hr' : Rd Za4 w A' Y) (hl : X.length = n) (hl2 : Y.length = n) (hn : n ≤ 1000) (hx : ∀ x ∈ X, 0 ≤ x ∧ x ≤ 1000000) (hy : ∀ x ∈ Y, 0 ≤ x ∧ x ≤ 1000000) :
 Calls Tryz.prog 142 #[.slice A n c, .slice A' n c'] w fun e w' => ∃ v, e = .returned v ∧ Zn w' w.heap.size v (Qk X 0 Y) ∧ Below w.heap.size w w' := by
 have hZ : ∀ j, (Qk X 0 Y).getD j 0 = X.getD j 0 + Y.getD j 0 := Zdo (by omega)
 have hZl : (Qk X 0 Y).length = n := by rw [Jj, hl]
 generalize Qk X 0 Y = Z at hZ hZl ⊢
 have m1 : Zn (w.alloc (.cells #[] 3)) w.heap.size (.slice (some ⟨w.heap.size, 0, none⟩) 0 0) [] := World.ownsRow_made w #[] 0 (Nat.le_refl _) (Nat.zero_le _) (by simp)
 have HR := Za hr
 have HR' := Za hr'
 have HX := Za hx
 have HY := Za hy
 have HZ := Za hZ
 have HZL := Za hZl
 have HL := Za hl
 have HL2 := Za hl2
 have HM1 := Za m1
 clear hr hr' hx hy hZ hZl hl hl2 m1
 go_enter Tryz.func142, Tryz.ntmps142
 go_wp2_with fail
 go_loopg [5, 6] n (fun gg s5 s6 wr => ∃ jj : Nat, jj ≤ n ∧ n - jj ≤ gg ∧ s6 = .int .i64 jj ∧ Aside (Zn wr w.heap.size s5 (Z.take jj)) ∧ Aside (Below w.heap.size w wr))
 case atStart => exact ⟨0, Nat.zero_le _, by omega, rfl, (show Aside _ from by rw [List.take_zero]; exact HM1.out), Zc (Zf _) _⟩
 obtain ⟨jj, hj, hgg, rfl, HO, HB⟩ := hrel
 by_cases hlt : jj < n
 ·
  have hltz : (jj : Int) < (n : Int) := by omega
  obtain ⟨b, o, rfl, hlb, hc1⟩ := Za3 HR.out HB.out jj (by rw [HL.out]; exact hlt)
  obtain ⟨b2, o2, rfl, hlb2, hc2⟩ := Za3 HR'.out HB.out jj (by rw [HL2.out]; exact hlt)
  have hx0 := Yn HX.out jj (by rw [HL.out]; exact hlt)
  have hy0 := Yn HY.out jj (by rw [HL2.out]; exact hlt)
  have hz0 := HZ.out jj
  have hsn : Z.take jj ++ [Z.getD jj 0] = Z.take (jj + 1) := Zb4 (by rw [HZL.out]; exact hlt)
  rw [hz0] at hsn
  generalize X.getD jj 0 = x at hc1 hx0 hsn
  generalize Y.getD jj 0 = y at hc2 hy0 hsn
  have t1 := IntWalk.i64_in (x + y) (by omega)
  have HSN := Za hsn
  clear hsn hz0 hx0 hy0
  go_wp2_with fail
  have HOD : Hid (Zn wr.drew w.heap.size u5 (Z.take jj)) := HO.out.below (Zt (Zf _))
  have HBD := Za (Zt HB.out)
  have ed := Zt (Zf wr)
  have q1 := Zg ed hc1
  have q2 := Zg ed hc2
  have hzl : (Z.take jj).length ≤ 1000000 := by simp; omega
  have HOW : Hid (∀ W, Below wr.drew.heap.size wr.drew W → Zn W w.heap.size u5 (Z.take jj) ∧ w.heap.size ≤ W.heap.size) := fun W h => ⟨HOD.out.below h, Nat.le_trans HBD.out.size h.size⟩
  clear ed hc1 hc2
  obtain ⟨KF, hKF⟩ : ∃ f : Nat → Value → World → Prop, f = (fun j v W => match j with | 0 => v = u5 | 1 => v = .slice (some ⟨b, o, none⟩) n c | 2 => v = .int .i64 ↑jj | 3 => v = .pointer (some ⟨b, o + jj, none⟩) | 4 => v = .int .i64 x | 5 => v = .slice (some ⟨b2, o2, none⟩) n c' | 6 => v = .int .i64 ↑jj | 7 => v = .pointer (some ⟨b2, o2 + jj, none⟩) | 8 => v = .int .i64 y | 9 => v = .int .i64 (x + y) | 10 => ∃ B10, v = .slice (some ⟨B10, 0, none⟩) 1 1 ∧ W.cell? ⟨B10, 0, none⟩ = some (.int .i64 (x + y)) | _ => True) := ⟨_, rfl⟩
  have KK := Za (kf hKF)
  have HST : Yw KF := by
   rw [hKF]
   intro j v W W9 h hb
   by_cases hjn : j < 13
   ·
    obtain rfl|rfl|rfl|rfl|rfl|rfl|rfl|rfl|rfl|rfl|rfl|rfl|rfl : j = 0 ∨ j = 1 ∨ j = 2 ∨ j = 3 ∨ j = 4 ∨ j = 5 ∨ j = 6 ∨ j = 7 ∨ j = 8 ∨ j = 9 ∨ j = 10 ∨ j = 11 ∨ j = 12 := by omega
    · exact h
    · exact h
    · exact h
    · exact h
    · exact h
    · exact h
    · exact h
    · exact h
    · exact h
    · exact h
    · obtain ⟨B10, hv, h⟩ := h
      exact ⟨B10, hv, (Zg hb h)⟩
    · exact trivial
    exact trivial
   obtain ⟨k, rfl⟩ : ∃ k, j = k + 13 := ⟨j - 13, by omega⟩
   exact h
  clear hKF
  obtain ⟨dep, hdep⟩ : ∃ f : Nat → List Nat, f = (fun j => match j with | 3 => [1, 2] | 4 => [3] | 7 => [5, 6] | 8 => [7] | 9 => [4, 8] | 10 => [9] | 11 => [0, 10] | 12 => [11] | _ => []) := ⟨_, rfl⟩
  have DD := Za hdep
  clear hdep
  have HLD : Yt 13 11 dep := Zbo DD.out (by decide)
  obtain ⟨st, hst⟩ : ∃ f : Nat → Value, f = (fun j => match j with | 0 => u14 | 1 => u15 | 2 => u16 | 3 => u17 | 4 => u18 | 5 => u19 | 6 => u20 | 7 => u21 | 8 => u22 | 9 => u23 | 10 => u24 | 11 => u25 | 12 => u5 | _ => undef) := ⟨_, rfl⟩
  have ST := Za hst
  clear hst
  refine Qe (fun l a W => ∃ vs : Nat → Value, a = ⟨List.toArray (.slice (some ⟨b, o, none⟩) n c :: .slice (some ⟨b2, o2, none⟩) n c' :: Zb :: Zb :: .slice none 0 0 :: vs 12 :: .int .i64 ↑jj :: .slice (some ⟨w.heap.size, 0, none⟩) 0 0 :: .int .i64 ↑jj :: .slice (some ⟨b, o, none⟩) n c :: .int .i64 ↑n :: .bool true :: u12 :: u13 :: vs 0 :: vs 1 :: vs 2 :: vs 3 :: vs 4 :: vs 5 :: vs 6 :: vs 7 :: vs 8 :: vs 9 :: vs 10 :: vs 11 :: Zb :: []), []⟩ ∧ Yp KF 13 11 dep (wr.drew) (fun W v W2 => Zn W2 w.heap.size v (Z.take jj ++ [x + y]) ∧ W.grownBy W2 u5.ownBlock) st l vs W) (by kernel_rfl) ?top ?start ?step ?fin
  case top => exact Zae (by kernel_rfl)
  case start => exact ⟨st, by rw [ST.out]; first | done | rfl, Yp.start⟩
  case step =>
   rintro l a W i o ho hl hpre hsz ⟨vs, rfl, hM0⟩ K hK
   have hi : i < 13 := (Array.getElem?_eq_some_iff.1 ho).1
   obtain rfl|rfl|rfl|rfl|rfl|rfl|rfl|rfl|rfl|rfl|rfl|rfl|rfl := Zuu hi
   all_goals
    simp only [List.getElem?_toArray, List.getElem?_cons_zero, List.getElem?_cons_succ, Option.some.injEq] at ho
    subst ho
    have hPR := Zce hpre
   ·
    have hMB := hM0.below HLD hi (by decide) hl
    have hMG := hM0.get HLD hi (by decide) hl
    have v12 : vs 12 = u5 := (hM0.getStale HLD hi (by decide) hl 12 (by decide)).trans (congrFun ST.out 12)
    have hdp := dpa DD hpre 0 rfl
    rw [v12]
    go_simp
    exact hK.out _ _ ⟨Zd vs 0 (u5), (by simp [Zd, v12]), hM0.still HLD HST 0 (by decide) (by decide) hl _ hdp ((KK.out 0 _ _).2 rfl)⟩
   · have hMB := hM0.below HLD hi (by decide) hl
     have hMG := hM0.get HLD hi (by decide) hl
     have hdp := dpa DD hpre 1 rfl
     go_simp
     exact hK.out _ _ ⟨Zd vs 1 (.slice (some ⟨b, o, none⟩) n c), rfl, hM0.still HLD HST 1 (by decide) (by decide) hl _ hdp ((KK.out 1 _ _).2 rfl)⟩
   · have hMB := hM0.below HLD hi (by decide) hl
     have hMG := hM0.get HLD hi (by decide) hl
     have hdp := dpa DD hpre 2 rfl
     go_simp
     exact hK.out _ _ ⟨Zd vs 2 (.int .i64 ↑jj), rfl, hM0.still HLD HST 2 (by decide) (by decide) hl _ hdp ((KK.out 2 _ _).2 rfl)⟩
   ·
    have hMB := hM0.below HLD hi (by decide) hl
    have hMG := hM0.get HLD hi (by decide) hl
    have v1 : vs 1 = .slice (some ⟨b, o, none⟩) n c := (KK.out 1 _ _).1 (hMG 1 (by decide) (hPR 1 rfl))
    have v2 : vs 2 = .int .i64 ↑jj := (KK.out 2 _ _).1 (hMG 2 (by decide) (hPR 2 rfl))
    have hdp := dpa DD hpre 3 rfl
    rw [v1, v2]
    go_simp
    exact hK.out _ _ ⟨Zd vs 3 (.pointer (some ⟨b, o + jj, none⟩)), (by simp [Zd, v1, v2]), hM0.still HLD HST 3 (by decide) (by decide) hl _ hdp ((KK.out 3 _ _).2 rfl)⟩
   ·
    have hMB := hM0.below HLD hi (by decide) hl
    have hMG := hM0.get HLD hi (by decide) hl
    have v3 : vs 3 = .pointer (some ⟨b, o + jj, none⟩) := (KK.out 3 _ _).1 (hMG 3 (by decide) (hPR 3 rfl))
    have hdp := dpa DD hpre 4 rfl
    have x0 := Zg hMB q1
    rw [v3]
    go_simp
    exact hK.out _ _ ⟨Zd vs 4 (.int .i64 x), (by simp [Zd, v3]), hM0.still HLD HST 4 (by decide) (by decide) hl _ hdp ((KK.out 4 _ _).2 rfl)⟩
   · have hMB := hM0.below HLD hi (by decide) hl
     have hMG := hM0.get HLD hi (by decide) hl
     have hdp := dpa DD hpre 5 rfl
     go_simp
     exact hK.out _ _ ⟨Zd vs 5 (.slice (some ⟨b2, o2, none⟩) n c'), rfl, hM0.still HLD HST 5 (by decide) (by decide) hl _ hdp ((KK.out 5 _ _).2 rfl)⟩
   · have hMB := hM0.below HLD hi (by decide) hl
     have hMG := hM0.get HLD hi (by decide) hl
     have hdp := dpa DD hpre 6 rfl
     go_simp
     exact hK.out _ _ ⟨Zd vs 6 (.int .i64 ↑jj), rfl, hM0.still HLD HST 6 (by decide) (by decide) hl _ hdp ((KK.out 6 _ _).2 rfl)⟩
   ·
    have hMB := hM0.below HLD hi (by decide) hl
    have hMG := hM0.get HLD hi (by decide) hl
    have v5 : vs 5 = .slice (some ⟨b2, o2, none⟩) n c' := (KK.out 5 _ _).1 (hMG 5 (by decide) (hPR 5 rfl))
    have v6 : vs 6 = .int .i64 ↑jj := (KK.out 6 _ _).1 (hMG 6 (by decide) (hPR 6 rfl))
    have hdp := dpa DD hpre 7 rfl
    rw [v5, v6]
    go_simp
    exact hK.out _ _ ⟨Zd vs 7 (.pointer (some ⟨b2, o2 + jj, none⟩)), (by simp [Zd, v5, v6]), hM0.still HLD HST 7 (by decide) (by decide) hl _ hdp ((KK.out 7 _ _).2 rfl)⟩
   ·
    have hMB := hM0.below HLD hi (by decide) hl
    have hMG := hM0.get HLD hi (by decide) hl
    have v7 : vs 7 = .pointer (some ⟨b2, o2 + jj, none⟩) := (KK.out 7 _ _).1 (hMG 7 (by decide) (hPR 7 rfl))
    have hdp := dpa DD hpre 8 rfl
    have x0 := Zg hMB q2
    rw [v7]
    go_simp
    exact hK.out _ _ ⟨Zd vs 8 (.int .i64 y), (by simp [Zd, v7]), hM0.still HLD HST 8 (by decide) (by decide) hl _ hdp ((KK.out 8 _ _).2 rfl)⟩
   ·
    have hMB := hM0.below HLD hi (by decide) hl
    have hMG := hM0.get HLD hi (by decide) hl
    have v4 : vs 4 = .int .i64 x := (KK.out 4 _ _).1 (hMG 4 (by decide) (hPR 4 rfl))
    have v8 : vs 8 = .int .i64 y := (KK.out 8 _ _).1 (hMG 8 (by decide) (hPR 8 rfl))
    have hdp := dpa DD hpre 9 rfl
    rw [v4, v8]
    go_simp
    exact hK.out _ _ ⟨Zd vs 9 (.int .i64 (x + y)), (by simp [Zd, v4, v8]), hM0.still HLD HST 9 (by decide) (by decide) hl _ hdp ((KK.out 9 _ _).2 rfl)⟩
   ·
    have hMB := hM0.below HLD hi (by decide) hl
    have hMG := hM0.get HLD hi (by decide) hl
    have v9 : vs 9 = .int .i64 (x + y) := (KK.out 9 _ _).1 (hMG 9 (by decide) (hPR 9 rfl))
    have hdp := dpa DD hpre 10 rfl
    rw [v9]
    go_simp
    exact hK.out _ _ ⟨Zd vs 10 (.slice (some ⟨W.heap.size, 0, none⟩) 1 1), (by simp [Zd, v9]), hM0.next HLD HST 10 (by decide) (by decide) hl _ hdp (Zc (Zf _) _) ((KK.out 10 _ _).2 ⟨_, rfl, (Zj _ _ _ _ 0 _ rfl)⟩)⟩
   ·
    have hMB := hM0.below HLD hi (by decide) hl
    have hMG := hM0.get HLD hi (by decide) hl
    have v0 : vs 0 = u5 := (KK.out 0 _ _).1 (hMG 0 (by decide) (hPR 0 rfl))
    obtain ⟨B10, v10, q10⟩ := (KK.out 10 _ _).1 (hMG 10 (by decide) (hPR 10 rfl))
    have hdp := dpa DD hpre 11 rfl
    have hno : ∀ j, 11 < j → l.getD j false = true → 11 ∈ dep j := by
     intro j hj hj2
     have hjn : j < 13 := by have := Zap hj2; rw [hM0.size] at this; exact this
     obtain rfl : j = 12 := by omega
     rw [DD.out]; simp
    rw [v0, v10]
    rw [if_pos (by simp [Region.wanted])]
    refine Zky (.tmp 14) (.tmp 24) rfl w.heap.size u5 (Z.take jj) (by simp [Act.eval, v0]) (HOW.out W hMB).1 ⟨B10, 0, none⟩ 1 (x + y) (by simp [Act.eval, v10]) q10 hzl (HOW.out W hMB).2 ?_
    intro v9 W9 h2 h3
    exact hK.out _ _ ⟨Zd vs 11 v9, by simp [Zd, Act.put, v0, v10], hM0.last HLD (by decide) hl hno _ hdp ⟨h2, h3⟩⟩
   have hdp := dpa DD hpre 12 rfl
   go_simp
   exact hK.out _ _ ⟨Zd vs 12 (vs 11), by simp [Zd], hM0.post 12 (by decide) (by decide) (hPR 11 rfl) hdp⟩
  rintro l a W5 hall ⟨vs5, rfl, hM0⟩
  obtain ⟨W51, hMB, hMG, hMR, hMA⟩ := hM0.fin (by decide) hall
  have HBW := Za hMB
  have hv12 := hMA 12 (by decide) (by decide)
  rw [hv12]
  rw [HSN.out] at hMR
  have HM5 := Za hMR.1
  have HB5 : Hid (Below w.heap.size w W5) := (step HBD.out HBW.out).trans (Qg hMR.2 (Nat.le_trans HBD.out.size HBW.out.size) (fun b hb => ((HOD.out.below HBW.out).lt hb).1))
  generalize vs5 11 = v11 at HM5 ⊢
  clear KK DD ST HLD HST hMG hMA hMR hv12 hMB hall hM0 st HOW
  go_wp2_with fail
  go_roundg (n - (jj + 1))
  case measure => omega
  case rel => exact ⟨jj + 1, by omega, by omega, by go_num, HM5.out, HB5.out⟩
 have hltz : ¬ (jj : Int) < (n : Int) := by omega
 have HT := Za (show Z.take jj = Z from List.take_of_length_le (by rw [HZL.out]; omega))
 go_wp2_with fail
 go_ret
 exact ⟨_, rfl, by have := HO.out; rw [HT.out] at this; exact this, HB.out⟩
end Go.Proofs.YtgdmcmicfoamlaaGreatDoor
