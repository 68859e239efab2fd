import Derived.Test.YtgdmcmicfoamlaaGreatDoorMixTn
set_option linter.unusedVariables false
set_option linter.unusedSimpArgs false
set_option maxHeartbeats 40000000
set_option maxRecDepth 100000
namespace Go.Proofs.YtgdmcmicfoamlaaGreatDoor
open Go.RowKit
def Zb8 (L : List Int) (i : Nat) (x : Int) : Int := max x (L.getD i 0)
def Zcb (t : Tbl) (cells : List Zl) (n : Nat) : List Int := (made t.gap (fun c => Zac (Qb t c)) cells n).mapIdx (Zb8 (Yf t cells n))
theorem Zdp (f : Nat → Int → Int) (X : List Int) : Jm f X.length X = X.mapIdx f := by
 apply List.ext_getElem (by simp [Jm])
 intro j h1 h2
 have : j < X.length := by simpa using h2
 simp [Jm, this]
theorem Zrq (t : Tbl) (A : Option Addr) (c : Nat) (A' : Option Addr) (c' : Nat) (gr : Int) (n : Nat) (cells : List Zl) (GA : Option Addr) (gc : Nat) (w : World) (hw : Zb9 w) (hc : Rd Zbz w A t.cols) (hr : Rd Zbp w A' t.rows) (hG : Rd gcR w GA cells)
 (hg : 0 ≤ t.gap ∧ t.gap ≤ 3) (hn : 1 ≤ n ∧ n ≤ 1000) (hcell : ∀ x ∈ cells, Zas n (fun c => Jq (Qb t c)) x ∧ Zaq t x ∧ 0 ≤ Jq (Qb t x))
 (hcell2 : ∀ x ∈ cells, Zas n (fun c => Zac (Qb t c)) x ∧ Zaq t x ∧ 0 ≤ Zac (Qb t x)) (hcl : cells.length ≤ 1000) (htc : t.cols.length ≤ n) :
 Calls Tryz.prog 158 #[.agg #[.slice A t.cols.length c, .int .i64 t.head, .int .i64 t.foot, .slice A' t.rows.length c', .int .i64 t.gap], .agg #[.int .i64 gr, .int .i64 n, .slice GA cells.length gc]] w fun e w' => ∃ v, e = .returned v ∧ Zn w' w.heap.size v (Zcb t cells n) ∧ Below w.heap.size w w' := by
 have hM := fun (W : World) (h : Below w.heap.size w W) => Zly t A c A' c' gr n cells GA gc 208 Zac W (hw.below h) (hr.below h) (hG.below h) Zrz hg hn hcell2 hcl
 have hE := fun (W : World) (h : Below w.heap.size w W) => Zj4 t A c A' c' gr n cells GA gc W (hw.below h) (hc.below h) (hr.below h) (hG.below h) hg hn hcell hcl htc
 have hlen : (made t.gap (fun c => Zac (Qb t c)) cells n).length = n := (Zb3 hg.1 (fun x hx => (hcell2 x hx).1)).1.1
 have hlen2 : (Yf t cells n).length = n := by
  unfold Yf; rw [List.length_mapIdx]; exact (Zb3 hg.1 (fun x hx => (hcell x hx).1)).1.1
 have hw2 : Zcb t cells n = (made t.gap (fun c => Zac (Qb t c)) cells n).mapIdx (Zb8 (Yf t cells n)) := rfl
 generalize hX : made t.gap (fun c => Zac (Qb t c)) cells n = X at hM hlen hw2
 generalize hY : Yf t cells n = Y at hE hlen2 hw2
 have HL := Za hlen
 have HL2 := Za hlen2
 have HR := Za hw2
 clear hw hc hr hG hcell hcell2 hX hY hlen hlen2 hw2
 have hmax := Zdc
 go_enter Tryz.func158, Tryz.ntmps158
 go_wp2_with fail
 refine (hM _ (Zc (Zc (Zf _) _) _)).mono ?_
 rintro e w1 ⟨v, rfl, hO, hb⟩
 obtain ⟨c0, f0, s0⟩ := Jc w.heap.size (by first | (simp; omega) | simp [*]) hb
 obtain ⟨c1, f1, s1⟩ := Jc (w.heap.size + 1) (by first | (simp; omega) | simp [*]) hb
 have hb2 := Za (step (Zc (Zc (Zf _) _) _) hb)
 obtain ⟨g, cc, rfl, hg1, hg2, _, _⟩ := hO.at (by rw [HL.out]; exact hn.1)
 have hgw : w.heap.size ≤ g := by simp at hg1; omega
 rw [HL.out]
 rw [HL.out] at hO
 have HO := Za (hO.base (base' := w.heap.size) (by simp; omega))
 clear hO hb hg1 hM
 go_wp2_with fail
 refine (hE _ hb2.out).mono ?_
 rintro e w3 ⟨v, rfl, hO3, hb3⟩
 have HB3 := Za (step hb2.out hb3)
 have HX3 := Za (HO.out.below hb3)
 obtain ⟨g3, c3, rfl, hg3, hg4, _, _⟩ := hO3.at (by rw [HL2.out]; exact hn.1)
 have hne : g ≠ g3 := by omega
 rw [HL2.out]
 rw [HL2.out] at hO3
 have HO3 := Za hO3
 clear hO3 hb3 c0 c1 hE
 go_wp2_with fail
 go_loopg [6, 7, 15] n (fun gg s6 s7 s15 wr => ∃ kk : Nat, kk ≤ n ∧ n - kk ≤ gg ∧ s15 = .int .i64 kk ∧ Aside (Below w.heap.size w wr) ∧ Aside (Zn wr w1.heap.size (.slice (some ⟨g3, 0, none⟩) n c3) Y) ∧ Aside (Zn wr w.heap.size (.slice (some ⟨g, 0, none⟩) n cc) (Jm (Zb8 Y) kk X)))
 case atStart => exact ⟨0, Nat.zero_le _, by omega, rfl, HB3.out, HO3.out, (show Aside _ from by rw [Zcr]; exact HX3.out)⟩
 obtain ⟨kk, hkk, hgg, rfl, HB, HY, HM⟩ := hrel
 by_cases hlt : kk < n
 ·
  have hltz : (kk : Int) < (n : Int) := by omega
  have hml : kk < (Jm (Zb8 Y) kk X).length := by rw [Zal, HL.out]; omega
  have cm := HM.out.cell (j := kk) hml
  have fm := HM.out.frozen kk
  have cy := HY.out.cell (j := kk) (by rw [HL2.out]; omega)
  rw [Zer] at cm
  have hst := HM.out.store kk (Zb8 Y kk (X.getD kk 0))
  have hso := HY.out.other (a := ⟨g, kk, none⟩) hne (.int .i64 (Zb8 Y kk (X.getD kk 0)))
  rw [Zdj _ _ _ (by rw [HL.out]; omega)] at hst
  unfold Zb8 at hst hso
  have hst' : Zn (wr.setCell ⟨g, kk, none⟩ (.int .i64 (max (X.getD kk 0) (Y.getD kk 0)))) w.heap.size (.slice (some ⟨g, 0, none⟩) n cc) (Jm (Zb8 Y) (kk + 1) X) := hst
  have HST := Za hst'
  have HSO := Za hso
  generalize X.getD kk 0 = y at cm HST HSO
  generalize Y.getD kk 0 = z at cy HST HSO
  clear hst hst' hso hml
  go_wp2_with fail
  go_roundg (n - (kk + 1))
  case measure => omega
  case rel => exact ⟨kk + 1, by omega, by omega, by go_num, (show Aside _ from Yi HB.out (by show w.heap.size ≤ g; omega) _), HSO.out, HST.out⟩
 have hltz : ¬ (kk : Int) < (n : Int) := by omega
 have HK := Za (show Jm (Zb8 Y) kk X = Zcb t cells n by
  rw [show kk = X.length by rw [HL.out]; omega, Zdp, HR.out])
 go_wp2_with fail
 go_ret
 exact ⟨_, rfl, by rw [← HK.out]; exact HM.out, HB.out⟩
def Zdx (m : Nat) (t : Tbl) : List Int := if Qn t = true then Zcb t (Zp m t).1 (Zp m t).2.toNat else []
def Zau (gap : Int) (xs : List Int) : Int := Zq xs + gap * max ((xs.length : Int) - 1) 0
theorem Zey (B : Int) : ∀ (xs : List Int), (∀ x ∈ xs, 0 ≤ x ∧ x ≤ B) → 0 ≤ Zq xs ∧ Zq xs ≤ B * xs.length
 | [], _ => by simp [Jz]
 | x :: xs, h => by
  have h1 := h x (List.mem_cons_self ..)
  have h2 := Zey B xs (fun y hy => h y (List.mem_cons_of_mem _ hy))
  have h3 : Zq (x :: xs) = x + Zq xs := by first | exact Qy .. | simp [Zq]
  rw [h3, List.length_cons, Int.natCast_add, Int.mul_add]
  omega
theorem Zl8 (A : Option Addr) (c : Nat) (xs : List Int) (gap : Int) (w : World) (hr : Rd Za4 w A xs) (hb : ∀ x ∈ xs, 0 ≤ x ∧ x ≤ 1000000) (hn : xs.length ≤ 1000) (hg : 0 ≤ gap ∧ gap ≤ 3) :
 Calls Tryz.prog 94 #[.slice A xs.length c, .int .i64 gap] w fun e w' => e = .returned (.int .i64 (Zau gap xs)) ∧ Below w.heap.size w w' := by
 have hS := Zbm A c xs w hr hb (by omega)
 obtain ⟨s1, s2⟩ := Zey _ xs hb
 have hmax := Zdc
 have HW := Za (show Zau gap xs = Zq xs + gap * max ((xs.length : Int) - 1) 0 from rfl)
 generalize Zq xs = s at hS s1 s2 HW
 obtain ⟨m, hm⟩ : ∃ m, m = max ((xs.length : Int) - 1) 0 := ⟨_, rfl⟩
 have hm1 : 0 ≤ m ∧ m ≤ 1000 := by omega
 obtain ⟨p, hp⟩ : ∃ p, p = gap * m := ⟨_, rfl⟩
 have hp1 : 0 ≤ p ∧ p ≤ 3000 := by
  subst hp
  exact ⟨Int.mul_nonneg hg.1 hm1.1, Int.le_trans (Int.mul_le_mul hg.2 hm1.2 hm1.1 (by decide)) (by decide)⟩
 have t0 := IntWalk.i64_in ((xs.length : Int) - 1) (by omega)
 have t1 : IntKind.i64.wrap (gap * m) = p := by rw [← hp, IntKind.wrap_i64]; omega
 have t2 := IntWalk.i64_in (s + p) (by omega)
 rw [← hm, ← hp] at HW
 have hm' := hm.symm
 have HP := Za hp
 clear hm hp hr hb
 go_enter Tryz.func94, Tryz.ntmps94
 go_wp2_with (go_at_call 90; refine hS.mono ?_; rintro e w9 ⟨rfl, hw9⟩; obtain rfl := hw9.symm)
 go_ret
 exact ⟨by rw [HW.out]; try rfl, by first | exact Zf _ | exact Zc (Zf _) _ | exact Zt (Zf _)⟩
theorem Znq (t : Tbl) (A : Option Addr) (c : Nat) (A' : Option Addr) (c' : Nat) (gr : Int) (n gl : Nat) (GA : Option Addr) (gc : Nat) (w : World) (hn : 1 ≤ n ∧ n ≤ 1000) (hg : 0 ≤ t.gap ∧ t.gap ≤ 3) :
 Calls Tryz.prog 97 #[.agg #[.slice A t.cols.length c, .int .i64 t.head, .int .i64 t.foot, .slice A' t.rows.length c', .int .i64 t.gap], .agg #[.int .i64 gr, .int .i64 n, .slice GA gl gc]] w fun e w' => e = .returned (.int .i64 (t.gap * ((n : Int) - 1))) ∧ Below w.heap.size w w' := by
 have t0 := IntWalk.i64_in ((n : Int) - 1) (by omega)
 have hp1 : 0 ≤ t.gap * ((n : Int) - 1) ∧ t.gap * ((n : Int) - 1) ≤ 3000 :=
  ⟨Int.mul_nonneg hg.1 (by omega), Int.le_trans (Int.mul_le_mul hg.2 (show (n : Int) - 1 ≤ 1000 by omega) (by omega) (by decide)) (by decide)⟩
 have t1 := IntWalk.i64_in (t.gap * ((n : Int) - 1)) (by omega)
 go_enter Tryz.func97, Tryz.ntmps97
 go_wp2_with fail
 go_ret
 exact ⟨rfl, Zc (Zc (Zf _) _) _⟩
theorem Qq {w : World} {base c n : Nat} {A : Option Addr} {xs : List Int} (h : Zn w base (.slice A n c) xs) : Rd Za4 w A xs := by
 obtain ⟨A2, c2, e, _, hr⟩ := h.rd
 injection e with e1 _ _
 rw [e1]; exact hr
theorem Zet (x y : Int) (w : World) : Calls Tryz.prog 132 #[.int .i64 x, .int .i64 y] w fun e w' => e = .returned (.int .i64 (max x y)) ∧ w' = w := by
 by_cases h : x > y
 ·
  have hm := Za (show max x y = x by omega)
  go_enter Tryz.func132, Tryz.ntmps132
  go_wp2_with fail
  go_ret
  exact ⟨by rw [hm.out]; try rfl, rfl⟩
 have hm := Za (show max x y = y by omega)
 have h2 : ¬ y < x := h
 go_enter Tryz.func132, Tryz.ntmps132
 go_wp2_with fail
 go_ret
 exact ⟨by rw [hm.out]; try rfl, rfl⟩
theorem Zqm (a b : Int) (W : World) : (Instr.field 100 (.agg #[.int .i64 a, .int .i64 b]) 1).run Tryz.prog W = .ok (.int .i64 b) W := by kernel_rfl
theorem Zhi (t : Tbl) (A : Option Addr) (c : Nat) (A' : Option Addr) (c' : Nat) (gr : Int) (n : Nat) (cells : List Zl) (GA : Option Addr) (gc : Nat) (w : World) (hc : Rd Zbz w A t.cols) (hr : Rd Zbp w A' t.rows) (hG : Rd gcR w GA cells)
 (hg : 0 ≤ t.gap ∧ t.gap ≤ 3) (hn : 1 ≤ n ∧ n ≤ 1000) (hcell : ∀ x ∈ cells, Zas n (fun c => Jq (Qb t c)) x ∧ Zaq t x ∧ 0 ≤ Jq (Qb t x)) (hcl : cells.length ≤ 1000) :
 Calls Tryz.prog 138 #[.agg #[.slice A t.cols.length c, .int .i64 t.head, .int .i64 t.foot, .slice A' t.rows.length c', .int .i64 t.gap], .agg #[.int .i64 gr, .int .i64 n, .slice GA cells.length gc]] w fun e w' => ∃ v, e = .returned v ∧ Zn w' w.heap.size v (Yf t cells n) ∧ Below w.heap.size w w' := by
 have hZ := fun (W : World) => Zis gr n cells GA gc W (by omega)
 have hM := fun (W : World) (h : Below w.heap.size w W) (FA : Option Addr) (fc : Nat) hf => Ziv t A c A' c' gr n cells GA gc true FA fc W (hr.below h) (hG.below h) hf hg hn (by simpa using hcell) hcl
 have hS := fun (W : World) (h : Below w.heap.size w W) (col : Nat) => Zd5 t A c A' c' col W (hc.below h) (by omega)
 have hlen : (made t.gap (fun c => Jq (Qb t c)) cells n).length = n := (Zb3 hg.1 (fun x hx => (hcell x hx).1)).1.1
 simp only [if_true] at hM
 generalize hX : made t.gap (fun c => Jq (Qb t c)) cells n = X at hM hlen
 have HX := Za hX
 have HL := Za hlen
 clear hc hr hG hcell hX hlen
 go_enter Tryz.func138, Tryz.ntmps138
 have HB := Za (Zc (Zc (Zf w) (.cells #[.slice A t.cols.length c, .int .i64 t.head, .int .i64 t.foot, .slice A' t.rows.length c', .int .i64 t.gap] 26)) (.cells #[.int .i64 gr, .int .i64 n, .slice GA cells.length gc] 39))
 go_upto_region 1 with fail
 go_cut [5] from 5 to 12 (fun s5 wx => ∃ g cc, s5 = .slice (some ⟨g, 0, none⟩) n cc ∧ w.heap.size + 2 ≤ g ∧ Aside (Below w.heap.size w wx) ∧ Aside (Zn wx w.heap.size (.slice (some ⟨g, 0, none⟩) n cc) X) ∧ wx.cell? ⟨w.heap.size, 0, none⟩ = some (.slice A t.cols.length c) ∧ wx.cell? ⟨w.heap.size, 1, none⟩ = some (.int .i64 t.head) ∧ wx.cell? ⟨w.heap.size, 2, none⟩ = some (.int .i64 t.foot) ∧ wx.cell? ⟨w.heap.size, 3, none⟩ = some (.slice A' t.rows.length c') ∧ wx.cell? ⟨w.heap.size, 4, none⟩ = some (.int .i64 t.gap))
 case first =>
  go_region_with (first
   | (go_at_call 191; refine (hZ _).mono ?_; rintro e w2 ⟨v, rfl, hI, hb2⟩; obtain ⟨c2, f2, s2⟩ := Jc w.heap.size (by first | (simp; omega) | simp [*]) hb2; obtain ⟨c3, f3, s3⟩ := Jc (w.heap.size + 1) (by first | (simp; omega) | simp [*]) hb2; obtain ⟨A2, d2, rfl⟩ := hI.form; have hrd := Qq hI; rw [List.length_replicate])
   | (go_at_call 190; refine (hM _ ?_ A2 d2 ?_).mono ?_; (first | exact step HB.out hb2 | exact step (Zt HB.out) hb2 | exact Zt (step HB.out hb2) | exact Zt (step (Zt HB.out) hb2)); (first | exact hrd | exact hrd.below (Zt (Zf _))); rintro e w3 ⟨v, rfl, hI3, hb3⟩; obtain ⟨c4, f4, s4⟩ := Jc w.heap.size (by first | (simp; omega) | simp [*]) hb3; obtain ⟨g, cc, rfl, hg1, hg2, _, _⟩ := hI3.at (by rw [HL.out]; exact hn.1); rw [HL.out]; rw [HL.out] at hI3))
  all_goals
   have hsz : w.heap.size ≤ w2.heap.size := Nat.le_trans HB.out.size hb2.size
   have hsz2 : w.heap.size + 2 ≤ w2.heap.size := by have h0 := hb2.size; simp at h0; omega
   have y0 : w3.cell? ⟨w.heap.size, 0, none⟩ = some (.slice A t.cols.length c) := by simp [c4, c2]
   have y1 : w3.cell? ⟨w.heap.size, 1, none⟩ = some (.int .i64 t.head) := by simp [c4, c2]
   have y2 : w3.cell? ⟨w.heap.size, 2, none⟩ = some (.int .i64 t.foot) := by simp [c4, c2]
   have y3 : w3.cell? ⟨w.heap.size, 3, none⟩ = some (.slice A' t.rows.length c') := by simp [c4, c2]
   have y4 : w3.cell? ⟨w.heap.size, 4, none⟩ = some (.int .i64 t.gap) := by simp [c4, c2]
   go_wp2_with fail
   go_meet
   refine ⟨g, cc, rfl, Nat.le_trans hsz2 hg1, (show Aside _ from ?_), (show Aside _ from ?_), y0, y1, y2, y3, y4⟩
   · show Below _ _ _
     (repeat' (with_reducible first | exact HB.out | refine Zt ?_ | refine step ?_ (by with_reducible assumption)))
   first
    | exact hI3.base hsz
    | exact (hI3.base hsz).below (Zt (Zf _))
 case rest =>
 obtain ⟨g, cc, rfl, hgw, HB2, HI, y0, y1, y2, y3, y4⟩ := hcut
 have HY := Za (And.intro y0 (And.intro y1 (And.intro y2 (And.intro y3 y4))))
 clear y0 y1 y2 y3 y4
 have hfc := Zmv
 go_wp2_with fail
 go_loopg [6] n (fun gg s6 wr => ∃ kk : Nat, kk ≤ n ∧ n - kk ≤ gg ∧ s6 = .int .i64 kk ∧ Aside (Below w.heap.size w wr) ∧ Aside (Zn wr w.heap.size (.slice (some ⟨g, 0, none⟩) n cc) (Jm (Zbb t) kk X)) ∧ Aside (wr.cell? ⟨w.heap.size, 0, none⟩ = some (.slice A t.cols.length c) ∧ wr.cell? ⟨w.heap.size, 1, none⟩ = some (.int .i64 t.head) ∧ wr.cell? ⟨w.heap.size, 2, none⟩ = some (.int .i64 t.foot) ∧ wr.cell? ⟨w.heap.size, 3, none⟩ = some (.slice A' t.rows.length c') ∧ wr.cell? ⟨w.heap.size, 4, none⟩ = some (.int .i64 t.gap)))
 case atStart => exact ⟨0, Nat.zero_le _, by omega, rfl, HB2.out, (show Aside _ from by rw [Zcr]; exact HI.out), HY.out⟩
 obtain ⟨kk, hkk, hgg, rfl, HB, HM, HC⟩ := hrel
 by_cases hlt : kk < n
 ·
  have hltz : (kk : Int) < (n : Int) := by omega
  have y0 := HC.out.1
  have y1 := HC.out.2.1
  have y2 := HC.out.2.2.1
  have y3 := HC.out.2.2.2.1
  have y4 := HC.out.2.2.2.2
  have hS5 := hS wr HB.out kk
  obtain ⟨k0, hk0⟩ : ∃ k0, (Yc t kk).k = k0 := ⟨_, rfl⟩
  obtain ⟨n0, hn0⟩ : ∃ n0, (Yc t kk).n = n0 := ⟨_, rfl⟩
  have hS6 := hS
  have HST : Hid (∀ x, Zbb t kk x = if k0 = 1 then max x n0 else x) := fun x => by unfold Zbb; rw [hk0, hn0]
  rw [hk0, hn0] at hS5
  have HN := Za (And.intro hk0 hn0)
  clear hk0 hn0
  have hwl : w.heap.size < wr.heap.size := by
   obtain ⟨g', c2, e, _, h2, _⟩ := HM.out.at (by rw [Zal, HL.out]; omega)
   injection e with e; injection e with e; injection e with e; omega
  go_wp2_with fail
  refine hS5.mono ?_
  rintro e w5 ⟨rfl, hb5⟩
  obtain ⟨c5, f5, s5⟩ := Jc w.heap.size (by first | (simp; omega) | simp [*]) hb5
  have HB5 := Za (step HB.out hb5)
  have HM5 := Za (HM.out.below hb5)
  by_cases h1 : k0 = 1
  ·
   subst h1
   clear hS5
   go_wp2_with fail
   obtain ⟨y, hy⟩ : ∃ y, X.getD kk 0 = y := ⟨_, rfl⟩
   have HMD : Hid (Zn w5.drew w.heap.size (.slice (some ⟨g, 0, none⟩) n cc) (Jm (Zbb t) kk X)) := HM5.out.below (Zt (Zf _))
   have HBD := Za (Zt HB5.out)
   have z0 : w5.drew.cell? ⟨w.heap.size, 0, none⟩ = some (.slice A t.cols.length c) := by simp [c5, y0]
   have z1 : w5.drew.cell? ⟨w.heap.size, 1, none⟩ = some (.int .i64 t.head) := by simp [c5, y1]
   have z2 : w5.drew.cell? ⟨w.heap.size, 2, none⟩ = some (.int .i64 t.foot) := by simp [c5, y2]
   have z3 : w5.drew.cell? ⟨w.heap.size, 3, none⟩ = some (.slice A' t.rows.length c') := by simp [c5, y3]
   have z4 : w5.drew.cell? ⟨w.heap.size, 4, none⟩ = some (.int .i64 t.gap) := by simp [c5, y4]
   have hml : kk < (Jm (Zbb t) kk X).length := by rw [Zal, HL.out]; omega
   have cm := HMD.out.cell (j := kk) hml
   rw [Zer, hy] at cm
   have HFZ : Hid (∀ W, Below w5.drew.heap.size w5.drew W → W.frozen? ⟨g, kk, none⟩ = false) := fun W h => (HMD.out.below h).frozen kk
   have HSS : Hid (∀ W, Below w5.drew.heap.size w5.drew W → Zn (W.setCell ⟨g, kk, none⟩ (.int .i64 (max y n0))) w.heap.size (.slice (some ⟨g, 0, none⟩) n cc) (Jm (Zbb t) (kk + 1) X)) := fun W h => by
    have h1 := (HMD.out.below h).store kk (Zbb t kk (X.getD kk 0))
    have h2 : Zbb t kk (X.getD kk 0) = max y n0 := by rw [hy, HST.out]; simp
    rw [Zdj _ _ _ (by rw [HL.out]; omega), h2] at h1
    exact h1
   have HS6 : Hid (∀ W, Below w5.drew.heap.size w5.drew W → Calls Tryz.prog 192 #[.agg #[.slice A t.cols.length c, .int .i64 t.head, .int .i64 t.foot, .slice A' t.rows.length c', .int .i64 t.gap], .int .i64 kk] W fun e w' => e = .returned (.agg #[.int .i64 1, .int .i64 n0]) ∧ Below W.heap.size W w') := fun W h => by
    have h1 := hS6 W (step HBD.out h) kk
    rw [HN.out.1, HN.out.2] at h1
    exact h1
   have hgz : w.heap.size < g := by omega
   clear hS6 hml hy y0 y1 y2 y3 y4 c5 f5 hS HM
   obtain ⟨vals, hvals⟩ : ∃ f : Nat → Value, f = (fun j => match j with | 0 => .slice (some ⟨g, 0, none⟩) n cc | 1 => .int .i64 ↑kk | 2 => .slice (some ⟨g, 0, none⟩) n cc | 3 => .int .i64 ↑kk | 4 => .pointer (some ⟨g, kk, none⟩) | 5 => .int .i64 y | 6 => .agg #[.slice A t.cols.length c, .int .i64 t.head, .int .i64 t.foot, .slice A' t.rows.length c', .int .i64 t.gap] | 7 => .int .i64 ↑kk | 8 => .agg #[.int .i64 1, .int .i64 n0] | 9 => .int .i64 n0 | 10 => .int .i64 (max y n0) | 11 => .pointer (some ⟨g, kk, none⟩) | 12 => undef | _ => undef) := ⟨_, rfl⟩
   have e0 : vals 0 = .slice (some ⟨g, 0, none⟩) n cc := congrFun hvals 0
   have e1 : vals 1 = .int .i64 ↑kk := congrFun hvals 1
   have e2 : vals 2 = .slice (some ⟨g, 0, none⟩) n cc := congrFun hvals 2
   have e3 : vals 3 = .int .i64 ↑kk := congrFun hvals 3
   have e4 : vals 4 = .pointer (some ⟨g, kk, none⟩) := congrFun hvals 4
   have e5 : vals 5 = .int .i64 y := congrFun hvals 5
   have e6 : vals 6 = .agg #[.slice A t.cols.length c, .int .i64 t.head, .int .i64 t.foot, .slice A' t.rows.length c', .int .i64 t.gap] := congrFun hvals 6
   have e7 : vals 7 = .int .i64 ↑kk := congrFun hvals 7
   have e8 : vals 8 = .agg #[.int .i64 1, .int .i64 n0] := congrFun hvals 8
   have e9 : vals 9 = .int .i64 n0 := congrFun hvals 9
   have e10 : vals 10 = .int .i64 (max y n0) := congrFun hvals 10
   have e11 : vals 11 = .pointer (some ⟨g, kk, none⟩) := congrFun hvals 11
   have e12 : vals 12 = undef := congrFun hvals 12
   clear hvals
   obtain ⟨dep, hdep⟩ : ∃ f : Nat → List Nat, f = (fun j => match j with | 4 => [2, 3] | 5 => [4] | 8 => [6, 7] | 9 => [8] | 10 => [5, 9, 8] | 11 => [0, 1] | 12 => [11, 10] | _ => []) := ⟨_, rfl⟩
   have d0 : dep 0 = [] := congrFun hdep 0
   have d1 : dep 1 = [] := congrFun hdep 1
   have d2 : dep 2 = [] := congrFun hdep 2
   have d3 : dep 3 = [] := congrFun hdep 3
   have d4 : dep 4 = [2, 3] := congrFun hdep 4
   have d5 : dep 5 = [4] := congrFun hdep 5
   have d6 : dep 6 = [] := congrFun hdep 6
   have d7 : dep 7 = [] := congrFun hdep 7
   have d8 : dep 8 = [6, 7] := congrFun hdep 8
   have d9 : dep 9 = [8] := congrFun hdep 9
   have d10 : dep 10 = [5, 9, 8] := congrFun hdep 10
   have d11 : dep 11 = [0, 1] := congrFun hdep 11
   have d12 : dep 12 = [11, 10] := congrFun hdep 12
   clear hdep
   have HLD : Zl7 13 dep := by
    intro L hc k12
    have k11 : L 11 := hc 12 k12 11 (by rw [d12]; simp)
    have k10 : L 10 := hc 12 k12 10 (by rw [d12]; simp)
    have k9 : L 9 := hc 10 k10 9 (by rw [d10]; simp)
    have k8 : L 8 := hc 10 k10 8 (by rw [d10]; simp)
    have k7 : L 7 := hc 8 k8 7 (by rw [d8]; simp)
    have k6 : L 6 := hc 8 k8 6 (by rw [d8]; simp)
    have k5 : L 5 := hc 10 k10 5 (by rw [d10]; simp)
    have k4 : L 4 := hc 5 k5 4 (by rw [d5]; simp)
    have k3 : L 3 := hc 4 k4 3 (by rw [d4]; simp)
    have k2 : L 2 := hc 4 k4 2 (by rw [d4]; simp)
    have k1 : L 1 := hc 11 k11 1 (by rw [d11]; simp)
    have k0 : L 0 := hc 11 k11 0 (by rw [d11]; simp)
    intro j hj
    obtain rfl|rfl|rfl|rfl|rfl|rfl|rfl|rfl|rfl|rfl|rfl|rfl|rfl : j = 0 ∨ j = 1 ∨ j = 2 ∨ j = 3 ∨ j = 4 ∨ j = 5 ∨ j = 6 ∨ j = 7 ∨ j = 8 ∨ j = 9 ∨ j = 10 ∨ j = 11 ∨ j = 12 := by omega
    all_goals assumption
   refine Qe (fun l a W => ∃ vs : Nat → Value, a = ⟨List.toArray ((Ya A t c A' c') :: .agg #[.int .i64 gr, .int .i64 ↑n, .slice GA cells.length gc] :: .pointer (some ⟨w.heap.size, 0, none⟩) :: .pointer (some ⟨w.heap.size + 1, 0, none⟩) :: .slice none 0 0 :: .slice (some ⟨g, 0, none⟩) n cc :: .int .i64 ↑kk :: u7 :: u8 :: u9 :: u10 :: u11 :: .int .i64 ↑kk :: .slice (some ⟨g, 0, none⟩) n cc :: .int .i64 ↑n :: .bool true :: u16 :: u17 :: (Ya A t c A' c') :: .int .i64 ↑kk :: .agg #[.int .i64 1, .int .i64 n0] :: .int .i64 1 :: .bool true :: vs 0 :: vs 1 :: vs 2 :: vs 3 :: vs 4 :: vs 5 :: vs 6 :: vs 7 :: vs 8 :: vs 9 :: vs 10 :: vs 11 :: Zb :: []), []⟩ ∧ Zbj vals 13 dep (w5.drew) ⟨g, kk, none⟩ (.int .i64 (max y n0)) l vs W) (by kernel_rfl) ?top ?start ?step ?fin
   case top => exact Zae (by kernel_rfl)
   case start => exact ⟨(fun j => match j with | 0 => u23 | 1 => u24 | 2 => u25 | 3 => u26 | 4 => u27 | 5 => u28 | 6 => u29 | 7 => u30 | 8 => u31 | 9 => u32 | 10 => u33 | 11 => u34 | _ => undef), rfl, Zbj.start (by decide)⟩
   case step =>
    rintro l a W i o ho hl hpre hsz ⟨vs, rfl, hM0⟩ K hK
    have hi : i < 13 := (Array.getElem?_eq_some_iff.1 ho).1
    have hM := hM0.open HLD hi hl
    obtain rfl|rfl|rfl|rfl|rfl|rfl|rfl|rfl|rfl|rfl|rfl|rfl|rfl := Zuu hi
    all_goals
     simp only [List.getElem?_toArray, List.getElem?_cons_zero, List.getElem?_cons_succ, Option.some.injEq] at ho
     subst ho
     have hPR := Zce hpre
    · have hdp : ∀ e ∈ dep 0, l.getD e false = true := by rw [d0]; exact Jt
      have e := e0
      clear e0 e1 e2 e3 e4 e5 e6 e7 e8 e9 e10 e11 e12 d0 d1 d2 d3 d4 d5 d6 d7 d8 d9 d10 d11 d12
      go_simp
      exact hK.out _ _ ⟨Zd vs 0 (.slice (some ⟨g, 0, none⟩) n cc), rfl, hM0.still HLD 0 (by decide) hl _ e.symm hdp⟩
    · have hdp : ∀ e ∈ dep 1, l.getD e false = true := by rw [d1]; exact Jt
      have e := e1
      clear e0 e1 e2 e3 e4 e5 e6 e7 e8 e9 e10 e11 e12 d0 d1 d2 d3 d4 d5 d6 d7 d8 d9 d10 d11 d12
      go_simp
      exact hK.out _ _ ⟨Zd vs 1 (.int .i64 ↑kk), rfl, hM0.still HLD 1 (by decide) hl _ e.symm hdp⟩
    · have hdp : ∀ e ∈ dep 2, l.getD e false = true := by rw [d2]; exact Jt
      have e := e2
      clear e0 e1 e2 e3 e4 e5 e6 e7 e8 e9 e10 e11 e12 d0 d1 d2 d3 d4 d5 d6 d7 d8 d9 d10 d11 d12
      go_simp
      exact hK.out _ _ ⟨Zd vs 2 (.slice (some ⟨g, 0, none⟩) n cc), rfl, hM0.still HLD 2 (by decide) hl _ e.symm hdp⟩
    · have hdp : ∀ e ∈ dep 3, l.getD e false = true := by rw [d3]; exact Jt
      have e := e3
      clear e0 e1 e2 e3 e4 e5 e6 e7 e8 e9 e10 e11 e12 d0 d1 d2 d3 d4 d5 d6 d7 d8 d9 d10 d11 d12
      go_simp
      exact hK.out _ _ ⟨Zd vs 3 (.int .i64 ↑kk), rfl, hM0.still HLD 3 (by decide) hl _ e.symm hdp⟩
    ·
     have v2 : vs 2 = .slice (some ⟨g, 0, none⟩) n cc := (hM.held 2 (hPR 2 rfl)).trans e2
     have v3 : vs 3 = .int .i64 ↑kk := (hM.held 3 (hPR 3 rfl)).trans e3
     have hdp : ∀ e ∈ dep 4, l.getD e false = true := by rw [d4]; exact (Jd (hPR 2 rfl) (Jd (hPR 3 rfl) Jt))
     have e := e4
     clear e0 e1 e2 e3 e4 e5 e6 e7 e8 e9 e10 e11 e12 d0 d1 d2 d3 d4 d5 d6 d7 d8 d9 d10 d11 d12
     rw [v2, v3]
     go_simp
     exact hK.out _ _ ⟨Zd vs 4 (.pointer (some ⟨g, kk, none⟩)), by simp [Zd, v2, v3], hM0.still HLD 4 (by decide) hl _ e.symm hdp⟩
    ·
     have v4 : vs 4 = .pointer (some ⟨g, kk, none⟩) := (hM.held 4 (hPR 4 rfl)).trans e4
     have hdp : ∀ e ∈ dep 5, l.getD e false = true := by rw [d5]; exact (Jd (hPR 4 rfl) Jt)
     have e := e5
     clear e0 e1 e2 e3 e4 e5 e6 e7 e8 e9 e10 e11 e12 d0 d1 d2 d3 d4 d5 d6 d7 d8 d9 d10 d11 d12
     have x0 := Zg hM.below cm
     rw [v4]
     go_simp
     exact hK.out _ _ ⟨Zd vs 5 (.int .i64 y), by simp [Zd, v4], hM0.still HLD 5 (by decide) hl _ e.symm hdp⟩
    ·
     have hdp : ∀ e ∈ dep 6, l.getD e false = true := by rw [d6]; exact Jt
     have e := e6
     clear e0 e1 e2 e3 e4 e5 e6 e7 e8 e9 e10 e11 e12 d0 d1 d2 d3 d4 d5 d6 d7 d8 d9 d10 d11 d12
     have x0 := Zg hM.below z0
     have x1 := Zg hM.below z1
     have x2 := Zg hM.below z2
     have x3 := Zg hM.below z3
     have x4 := Zg hM.below z4
     go_simp
     exact hK.out _ _ ⟨Zd vs 6 (.agg #[.slice A t.cols.length c, .int .i64 t.head, .int .i64 t.foot, .slice A' t.rows.length c', .int .i64 t.gap]), rfl, hM0.still HLD 6 (by decide) hl _ e.symm hdp⟩
    · have hdp : ∀ e ∈ dep 7, l.getD e false = true := by rw [d7]; exact Jt
      have e := e7
      clear e0 e1 e2 e3 e4 e5 e6 e7 e8 e9 e10 e11 e12 d0 d1 d2 d3 d4 d5 d6 d7 d8 d9 d10 d11 d12
      go_simp
      exact hK.out _ _ ⟨Zd vs 7 (.int .i64 ↑kk), rfl, hM0.still HLD 7 (by decide) hl _ e.symm hdp⟩
    ·
     have v6 : vs 6 = .agg #[.slice A t.cols.length c, .int .i64 t.head, .int .i64 t.foot, .slice A' t.rows.length c', .int .i64 t.gap] := (hM.held 6 (hPR 6 rfl)).trans e6
     have v7 : vs 7 = .int .i64 ↑kk := (hM.held 7 (hPR 7 rfl)).trans e7
     have hdp : ∀ e ∈ dep 8, l.getD e false = true := by rw [d8]; exact (Jd (hPR 6 rfl) (Jd (hPR 7 rfl) Jt))
     have e := e8
     clear e0 e1 e2 e3 e4 e5 e6 e7 e8 e9 e10 e11 e12 d0 d1 d2 d3 d4 d5 d6 d7 d8 d9 d10 d11 d12
     rw [v6, v7]
     go_simp
     refine (HS6.out _ hM.below).mono ?_
     rintro e5 W5 ⟨rfl, hb5⟩
     exact hK.out _ _ ⟨Zd vs 8 (.agg #[.int .i64 1, .int .i64 n0]), by simp [Zd, v6, v7], hM0.next HLD 8 (by decide) hl _ e.symm hdp hb5⟩
    ·
     have v8 : vs 8 = .agg #[.int .i64 1, .int .i64 n0] := (hM.held 8 (hPR 8 rfl)).trans e8
     have hdp : ∀ e ∈ dep 9, l.getD e false = true := by rw [d9]; exact (Jd (hPR 8 rfl) Jt)
     have e := e9
     clear e0 e1 e2 e3 e4 e5 e6 e7 e8 e9 e10 e11 e12 d0 d1 d2 d3 d4 d5 d6 d7 d8 d9 d10 d11 d12
     have hfc1 := Zqm
     rw [v8]
     go_simp
     exact hK.out _ _ ⟨Zd vs 9 (.int .i64 n0), by simp [Zd, v8], hM0.still HLD 9 (by decide) hl _ e.symm hdp⟩
    ·
     have v5 : vs 5 = .int .i64 y := (hM.held 5 (hPR 5 rfl)).trans e5
     have v9 : vs 9 = .int .i64 n0 := (hM.held 9 (hPR 9 rfl)).trans e9
     have v8 : vs 8 = .agg #[.int .i64 1, .int .i64 n0] := (hM.held 8 (hPR 8 rfl)).trans e8
     have hdp : ∀ e ∈ dep 10, l.getD e false = true := by rw [d10]; exact (Jd (hPR 5 rfl) (Jd (hPR 9 rfl) (Jd (hPR 8 rfl) Jt)))
     have e := e10
     clear e0 e1 e2 e3 e4 e5 e6 e7 e8 e9 e10 e11 e12 d0 d1 d2 d3 d4 d5 d6 d7 d8 d9 d10 d11 d12
     rw [v5, v9, v8]
     go_simp
     refine (Zet y n0 _).mono ?_
     rintro e5 W5 ⟨rfl, hq⟩
     exact hK.out _ _ ⟨Zd vs 10 (.int .i64 (max y n0)), by simp [Zd, v5, v9, v8], hM0.next HLD 10 (by decide) hl _ e.symm hdp (by rw [hq]; exact Zf _)⟩
    ·
     have v0 : vs 0 = .slice (some ⟨g, 0, none⟩) n cc := (hM.held 0 (hPR 0 rfl)).trans e0
     have v1 : vs 1 = .int .i64 ↑kk := (hM.held 1 (hPR 1 rfl)).trans e1
     have hdp : ∀ e ∈ dep 11, l.getD e false = true := by rw [d11]; exact (Jd (hPR 0 rfl) (Jd (hPR 1 rfl) Jt))
     have e := e11
     clear e0 e1 e2 e3 e4 e5 e6 e7 e8 e9 e10 e11 e12 d0 d1 d2 d3 d4 d5 d6 d7 d8 d9 d10 d11 d12
     rw [v0, v1]
     go_simp
     exact hK.out _ _ ⟨Zd vs 11 (.pointer (some ⟨g, kk, none⟩)), by simp [Zd, v0, v1], hM0.still HLD 11 (by decide) hl _ e.symm hdp⟩
    have v11 : vs 11 = .pointer (some ⟨g, kk, none⟩) := (hM.held 11 (hPR 11 rfl)).trans e11
    have v10 : vs 10 = .int .i64 (max y n0) := (hM.held 10 (hPR 10 rfl)).trans e10
    have hdp : ∀ e ∈ dep 12, l.getD e false = true := by rw [d12]; exact (Jd (hPR 11 rfl) (Jd (hPR 10 rfl) Jt))
    have e := e12
    clear e0 e1 e2 e3 e4 e5 e6 e7 e8 e9 e10 e11 e12 d0 d1 d2 d3 d4 d5 d6 d7 d8 d9 d10 d11 d12
    have fm := HFZ.out _ hM.below
    have cw := Zg hM.below cm
    rw [v11, v10]
    go_simp
    exact hK.out _ _ ⟨Zd vs 12 (undef), by simp [Zd, v11, v10], hM0.last HLD 12 rfl hl _ e.symm hdp⟩
   rintro l a W6 hall ⟨vs6, rfl, hM0⟩
   obtain ⟨W61, hM, rfl⟩ := hM0.fin (by decide) hall
   have HBW := Za hM.below
   clear e0 e1 e2 e3 e4 e5 e6 e7 e8 e9 e10 e11 e12 d0 d1 d2 d3 d4 d5 d6 d7 d8 d9 d10 d11 d12 HLD
   go_wp2_with fail
   go_roundg (n - (kk + 1))
   case measure => omega
   refine ⟨kk + 1, by omega, by omega, by go_num, (show Aside _ from Yi (step HBD.out HBW.out) (by show w.heap.size ≤ g; omega) _), (show Aside _ from HSS.out _ HBW.out), (show Aside _ from ?_)⟩
   have k0 := Zg HBW.out z0
   have k1 := Zg HBW.out z1
   have k2 := Zg HBW.out z2
   have k3 := Zg HBW.out z3
   have k4 := Zg HBW.out z4
   have hne : g ≠ w.heap.size := by omega
   refine ⟨?_, ?_, ?_, ?_, ?_⟩ <;> rw [World.cell?_setCell_far _ _ _ _ hne] <;> assumption
  have h1z : (k0 == 1) = false := by simp [h1]
  have HK := Za (Ze1 (Zbb t) kk X (by rw [HST.out, if_neg h1]))
  clear h1 hS5
  go_wp2_with fail
  go_roundg (n - (kk + 1))
  case measure => omega
  case rel => exact ⟨kk + 1, by omega, by omega, by go_num, HB5.out, (show Aside _ from by rw [HK.out]; exact HM5.out), (show Aside _ from ⟨by simp [c5, y0], by simp [c5, y1], by simp [c5, y2], by simp [c5, y3], by simp [c5, y4]⟩)⟩
 have hltz : ¬ (kk : Int) < (n : Int) := by omega
 have HK := Za (show Jm (Zbb t) kk X = Yf t cells n by
  rw [show kk = X.length by rw [HL.out]; omega, Zdp]; unfold Yf; rw [HX.out])
 go_wp2_with fail
 go_ret
 exact ⟨_, rfl, by rw [← HK.out]; exact HM.out, HB.out⟩
def Zdt (t : Tbl) (k : Nat) : Prop := ∀ (j : Nat) (hj : j < t.rows.length), t.rows[j].cs.length ≤ (if j = k then 5 else 4) ∧ ∀ x ∈ t.rows[j].cs, x.r ≠ 4
theorem Zb2.good {t : Tbl} (h : Zb2 t) : ∃ k, Zdt t k := by
 obtain ⟨k, hk⟩ := h.cells
 exact ⟨k, fun j hj => ⟨(hk j hj).1, fun x hx => ((hk j hj).2 x hx).2.2.2.2.2.1⟩⟩
def Jb (xs : List Int) (a k : Int) : List Int := (xs.drop a.toNat).take k.toNat
theorem Zpv {t : Tbl} (h : Qn t = true) (i : Int) (hk : (Yc t i).k = 1) : 0 ≤ (Yc t i).n ∧ (Yc t i).n ≤ 60 := by
 unfold Yc at hk ⊢
 split at hk
 ·
  rename_i hi
  rw [if_pos hi]
  have hlt : i.toNat < t.cols.length := by omega
  rw [List.getD_eq_getElem?_getD, List.getElem?_eq_getElem hlt] at hk ⊢
  have hc := (Zx h).2.2.2.2.2.1 _ (List.getElem_mem hlt)
  simp only [Option.getD_some] at hk ⊢
  unfold Zck at hc
  rw [if_neg (by omega), if_pos hk] at hc
  simpa [inB] using hc
 exact absurd hk (by decide)
theorem Zi3 (f : Nat → Int → Int) (xs : List Int) (j : Nat) (h : j < xs.length) : (xs.mapIdx f).getD j 0 = f j (xs.getD j 0) := by
 simp [List.getD_eq_getElem?_getD, h]
theorem Zs0 {t : Tbl} (h : Qn t = true) (j : Nat) (x : Int) (hx : 0 ≤ x ∧ x ≤ 30) : x ≤ Zbb t j x ∧ Zbb t j x ≤ 60 ∧ ((Yc t j).k = 1 → (Yc t j).n ≤ Zbb t j x) := by
 unfold Zbb
 split
 · rename_i hk
   have := Zpv h j hk
   exact ⟨Int.le_max_left .., Int.max_le.2 ⟨by omega, this.2⟩, fun _ => Int.le_max_right ..⟩
 rename_i hk
 exact ⟨Int.le_refl _, by omega, fun h' => absurd h' hk⟩
def Zl.has (c : Zl) (r k : Int) : Bool := decide (c.row ≤ r ∧ r < c.row + c.rows ∧ c.col ≤ k ∧ k < c.col + c.cols)
theorem Znr (A : Option Addr) (c : Nat) (A' : Option Addr) (c' : Nat) (xs : List Int) (w : World) (hr : Rd Za4 w A xs) (hr' : Rd Za4 w A' xs) (hn : xs.length ≤ 1000000) :
 Calls Tryz.prog 22 #[.slice A xs.length c, .slice A' xs.length c'] w fun e w' => e = .returned (.bool true) ∧ ∃ q, w' = w.drewN q := by
 have HR := Za hr
 have HR' := Za hr'
 clear hr hr'
 go_enter Tryz.func22, Tryz.ntmps22
 go_wp2_with fail
 go_loopg [5] xs.length (fun gg s5 wr => ∃ j : Nat, j ≤ xs.length ∧ xs.length - j ≤ gg ∧ s5 = .int .i64 j ∧ Aside (∃ q, wr = w.drewN q))
 case atStart => exact ⟨0, Nat.zero_le _, by omega, rfl, (show Aside _ from ⟨0, rfl⟩)⟩
 obtain ⟨j, hj, hgg, rfl, HQ⟩ := hrel
 obtain ⟨q, hq⟩ := HQ.out
 have hbw : Below w.heap.size w wr := by rw [hq]; exact Zam (Zf _) _
 by_cases hlt : j < xs.length
 ·
  have hltz : (j : Int) < (xs.length : Int) := by omega
  obtain ⟨b, o, rfl, hlb, hc⟩ := Za3 HR.out hbw j hlt
  obtain ⟨b', o', rfl, hlb', hc'⟩ := Za3 HR'.out hbw j hlt
  generalize xs.getD j 0 = y at hc hc'
  have HQ' := Za hq
  clear hq hbw HQ
  go_wp2_with fail
  go_quiet (fail)
  go_wp2_with fail
  go_roundg (xs.length - (j + 1))
  case measure => omega
  case rel => exact ⟨j + 1, by omega, by omega, by go_num, (show Aside _ from ⟨_, by rw [HQ'.out, World.drewN_drewN]⟩)⟩
 have hltz : ¬ (j : Int) < (xs.length : Int) := by omega
 have HQ' := Za hq
 clear hq hbw HQ
 go_wp2_with fail
 go_ret
 exact ⟨rfl, q, HQ'.out⟩
end Go.Proofs.YtgdmcmicfoamlaaGreatDoor
