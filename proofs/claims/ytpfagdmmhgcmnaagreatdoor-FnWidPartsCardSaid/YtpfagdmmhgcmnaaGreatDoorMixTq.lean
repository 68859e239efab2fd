import Derived.Test.YtpfagdmmhgcmnaaGreatDoorMixTn
import Derived.Test.YtpfagdmmhgcmnaaGreatDoorMixG1
set_option linter.unusedVariables false
set_option linter.unusedSimpArgs false
namespace Go.Proofs.YtpfagdmmhgcmnaaGreatDoor
open Go.RowKit
def colLeastL (m : Nat) (t : Tbl) : List Int := if tblOk t = true then leastL t (gridL m t).1 (gridL m t).2.toNat else []
theorem grid_cols_le (m : Nat) (t : Tbl) : (t.cols.length : Int) ≤ (gridL m t).2 :=
 Int.le_trans (show (t.cols.length : Int) ≤ max (t.cols.length : Int) 1 from Int.le_max_left ..) (rowsSt_mono m t t.rows 0 (grid0 t))
theorem grd_rd {w : World} {base c : Nat} {A : Option Addr} {xs : List GCell} (h : w.ownsRow base 39 5 (.slice A xs.length c) xs.length (xs.flatMap gcE)) (hx : ∀ x ∈ xs, GSm x) : Rd gcR w A xs := by
 obtain ⟨Ao, co, eo, _, ro⟩ := own_rd (enc := gcE) (hk := fun _ => rfl) h
 injection eo with e1 _ _
 rw [e1]
 exact rd_mono (d := flat 5 gcE (fun _ => rfl)) (d' := gcR) rfl (fun a ha cs h => ⟨h, hx a ha⟩) ro
set_option maxRecDepth 100000 in
set_option maxHeartbeats 4000000 in
theorem impl_ColLeast (t : Tbl) (A : Option Addr) (c : Nat) (A' : Option Addr) (c' : Nat) (w : World) (hw : Base w) (hc : Rd colR w A t.cols) (hr : Rd rowR w A' t.rows)
  {k : Nat} (hy : ∀ (j : Nat) (hj : j < t.rows.length), t.rows[j].cs.length ≤ (if j = k then 5 else 4) ∧ ∀ x ∈ t.rows[j].cs, x.r ≠ 4) :
  Calls Tryz.prog 16 #[.agg #[.slice A t.cols.length c, .int .i64 t.head, .int .i64 t.foot, .slice A' t.rows.length c', .int .i64 t.gap]] w fun e w' => ∃ v, e = .returned v ∧ IOwn w' w.heap.size v (colLeastL 400 t) ∧ Below w.heap.size w w' := by
 have hT := fun (W : World) (h : Below w.heap.size w W) => impl_TblOk t A c A' c' W (hw.below h) (hc.below h) (hr.below h)
 cases hok : tblOk t with
 | false =>
  rw [hok] at hT
  have hres : colLeastL 400 t = [] := by unfold colLeastL; rw [hok]; rfl
  rw [hres]
  clear hres hok hc hr hw hy
  go_enter Tryz.func16, Tryz.ntmps16
  go_wp2_with fail
  refine (hT _ (balloc (brefl _) _)).mono ?_
  rintro e w1 ⟨rfl, hb⟩
  go_wp2_with fail
  go_ret
  exact ⟨_, rfl, IOwn.nil _ _, step (balloc (brefl _) _) hb⟩
 | true =>
  have hG := fun (W : World) (h : Below w.heap.size w W) => impl_GrdOf t A c A' c' W (hw.below h) (hc.below h) (hr.below h)
  rw [hok] at hT
  have hgr : gridOf 400 t = ⟨t.rows.length, (gridL 400 t).2, (gridL 400 t).1⟩ := by unfold gridOf; rw [if_pos hok]
  rw [hgr] at hG
  obtain ⟨n, hn, hn1, hcell, hcl⟩ := grid_need hok hy 400 leastT_in
  have hle := grid_cols_le 400 t
  have hsm : Hid (∀ x ∈ (gridL 400 t).1, GSm x) := (GIn.rows (m := 400) hok).sm (by omega)
  have hres : Hid (colLeastL 400 t = leastL t (gridL 400 t).1 n) := by show colLeastL 400 t = _; unfold colLeastL; rw [if_pos hok, hn]; rfl
  rw [hres.out]
  rw [hn] at hG hle
  have hL := fun (W : World) (h : Below w.heap.size w W) GA gc hg => impl_least t A c A' c' t.rows.length n (gridL 400 t).1 GA gc W (hw.below h) (hc.below h) (hr.below h) hg (tblOk_parts hok).2.2.1 ⟨hn1.1, by omega⟩ hcell (by omega) (by omega)
  clear hgr hok hc hr hw hres hy hn hcell hcl hle
  generalize gridL 400 t = GG at hG hL hsm ⊢
  obtain ⟨GL, GN⟩ := GG
  dsimp only at hG hL hsm ⊢
  go_enter Tryz.func16, Tryz.ntmps16
  go_wp2_with fail
  refine (hT _ (balloc (brefl _) _)).mono ?_
  rintro e w1 ⟨rfl, hb⟩
  obtain ⟨c0, f0, s0⟩ := seenBk w.heap.size (by first | (simp; omega) | simp [*]) hb
  have HB := hide (step (balloc (brefl w) _) hb)
  clear hT
  go_upto_region 3 with fail
  go_region_with (first
   | (go_at_call 21; refine (hG _ ?_).mono ?_; (first | exact HB.out | exact bdrew HB.out | exact bdrew (bdrew HB.out)); rintro e w2 ⟨GA, gc, rfl, hown, hb2⟩; obtain ⟨c2, f2, s2⟩ := seenBk w.heap.size (by first | (simp; omega) | simp [*]) hb2; have hrd := grd_rd hown hsm.out)
   | (go_at_call 55; refine (hL _ ?_ GA gc ?_).mono ?_; (first | exact step HB.out hb2 | exact step (bdrew HB.out) hb2 | exact bdrew (step HB.out hb2) | exact bdrew (step (bdrew HB.out) hb2)); (first | exact hrd | exact hrd.below (bdrew (brefl _))); rintro e w3 ⟨v, rfl, hI, hb3⟩))
  all_goals
   have hsz : w.heap.size ≤ w2.heap.size := Nat.le_trans HB.out.size hb2.size
   go_wp2_with fail
   go_ret
   refine ⟨_, rfl, ?_, ?_⟩
   ·
    first
     | exact hI.base hsz
     | exact (hI.base hsz).below (bdrew (brefl _))
   ·
    (repeat' (with_reducible first | exact HB.out | refine bdrew ?_ | refine step ?_ (by with_reducible assumption)))
end Go.Proofs.YtpfagdmmhgcmnaaGreatDoor

namespace Go.Proofs.YtpfagdmmhgcmnaaGreatDoor
open Go.RowKit
def overL (L : List Int) (i : Nat) (x : Int) : Int := max x (L.getD i 0)
def wishL (t : Tbl) (cells : List GCell) (n : Nat) : List Int := (made t.gap (fun c => wishT (textOf t c)) cells n).mapIdx (overL (leastL t cells n))
theorem fillM_full (f : Nat → Int → Int) (X : List Int) : fillM f X.length X = X.mapIdx f := by
 apply List.ext_getElem (by simp [fillM])
 intro j h1 h2
 have : j < X.length := by simpa using h2
 simp [fillM, this]
set_option maxRecDepth 100000 in
set_option maxHeartbeats 4000000 in
theorem impl_wish (t : Tbl) (A : Option Addr) (c : Nat) (A' : Option Addr) (c' : Nat) (gr : Int) (n : Nat) (cells : List GCell) (GA : Option Addr) (gc : Nat) (w : World) (hw : Base w) (hc : Rd colR w A t.cols) (hr : Rd rowR w A' t.rows) (hG : Rd gcR w GA cells)
  (hg : 0 ≤ t.gap ∧ t.gap ≤ 3) (hn : 1 ≤ n ∧ n ≤ 1000) (hcell : ∀ x ∈ cells, CellIn n (fun c => leastT (textOf t c)) x ∧ CellAt t x ∧ 0 ≤ leastT (textOf t x))
  (hcell2 : ∀ x ∈ cells, CellIn n (fun c => wishT (textOf t c)) x ∧ CellAt t x ∧ 0 ≤ wishT (textOf t x)) (hcl : cells.length ≤ 1000) (htc : t.cols.length ≤ n) :
  Calls Tryz.prog 69 #[.agg #[.slice A t.cols.length c, .int .i64 t.head, .int .i64 t.foot, .slice A' t.rows.length c', .int .i64 t.gap], .agg #[.int .i64 gr, .int .i64 n, .slice GA cells.length gc]] w fun e w' => ∃ v, e = .returned v ∧ IOwn w' w.heap.size v (wishL t cells n) ∧ Below w.heap.size w w' := by
 have hM := fun (W : World) (h : Below w.heap.size w W) => impl_made t A c A' c' gr n cells GA gc 29 wishT W (hw.below h) (hr.below h) (hG.below h) need_wish hg hn hcell2 hcl
 have hE := fun (W : World) (h : Below w.heap.size w W) => impl_least t A c A' c' gr n cells GA gc W (hw.below h) (hc.below h) (hr.below h) (hG.below h) hg hn hcell hcl htc
 have hlen : (made t.gap (fun c => wishT (textOf t c)) cells n).length = n := (made_spec hg.1 (fun x hx => (hcell2 x hx).1)).1.1
 have hlen2 : (leastL t cells n).length = n := by
  unfold leastL; rw [List.length_mapIdx]; exact (made_spec hg.1 (fun x hx => (hcell x hx).1)).1.1
 have hw2 : wishL t cells n = (made t.gap (fun c => wishT (textOf t c)) cells n).mapIdx (overL (leastL t cells n)) := rfl
 generalize hX : made t.gap (fun c => wishT (textOf t c)) cells n = X at hM hlen hw2
 generalize hY : leastL t cells n = Y at hE hlen2 hw2
 have HL := hide hlen
 have HL2 := hide hlen2
 have HR := hide hw2
 clear hw hc hr hG hcell hcell2 hX hY hlen hlen2 hw2
 have hmax := max_int
 go_enter Tryz.func69, Tryz.ntmps69
 go_wp2_with fail
 refine (hM _ (balloc (balloc (brefl _) _) _)).mono ?_
 rintro e w1 ⟨v, rfl, hO, hb⟩
 obtain ⟨c0, f0, s0⟩ := seenBk w.heap.size (by first | (simp; omega) | simp [*]) hb
 obtain ⟨c1, f1, s1⟩ := seenBk (w.heap.size + 1) (by first | (simp; omega) | simp [*]) hb
 have hb2 := hide (step (balloc (balloc (brefl _) _) _) hb)
 obtain ⟨g, cc, rfl, hg1, hg2, _, _⟩ := hO.at (by rw [HL.out]; exact hn.1)
 have hgw : w.heap.size ≤ g := by simp at hg1; omega
 rw [HL.out]
 rw [HL.out] at hO
 have HO := hide (hO.base (base' := w.heap.size) (by simp; omega))
 clear hO hb hg1 hM
 go_wp2_with fail
 refine (hE _ hb2.out).mono ?_
 rintro e w3 ⟨v, rfl, hO3, hb3⟩
 have HB3 := hide (step hb2.out hb3)
 have HX3 := hide (HO.out.below hb3)
 obtain ⟨g3, c3, rfl, hg3, hg4, _, _⟩ := hO3.at (by rw [HL2.out]; exact hn.1)
 have hne : g ≠ g3 := by omega
 rw [HL2.out]
 rw [HL2.out] at hO3
 have HO3 := hide hO3
 clear hO3 hb3 c0 c1 hE
 go_wp2_with fail
 go_loopg [6, 7, 15] n (fun gg s6 s7 s15 wr => ∃ kk : Nat, kk ≤ n ∧ n - kk ≤ gg ∧ s15 = .int .i64 kk ∧ Aside (Below w.heap.size w wr) ∧ Aside (IOwn wr w1.heap.size (.slice (some ⟨g3, 0, none⟩) n c3) Y) ∧ Aside (IOwn wr w.heap.size (.slice (some ⟨g, 0, none⟩) n cc) (fillM (overL Y) kk X)))
 case atStart => exact ⟨0, Nat.zero_le _, by omega, rfl, HB3.out, HO3.out, (show Aside _ from by rw [fillM_zero]; exact HX3.out)⟩
 case round =>
  obtain ⟨kk, hkk, hgg, rfl, HB, HY, HM⟩ := hrel
  by_cases hlt : kk < n
  ·
   have hltz : (kk : Int) < (n : Int) := by omega
   have hml : kk < (fillM (overL Y) kk X).length := by rw [fillM_length, HL.out]; omega
   have cm := HM.out.cell (j := kk) hml
   have fm := HM.out.frozen kk
   have cy := HY.out.cell (j := kk) (by rw [HL2.out]; omega)
   rw [fillM_at] at cm
   have hst := HM.out.store kk (overL Y kk (X.getD kk 0))
   have hso := HY.out.other (a := ⟨g, kk, none⟩) hne (.int .i64 (overL Y kk (X.getD kk 0)))
   rw [fillM_set _ _ _ (by rw [HL.out]; omega)] at hst
   unfold overL at hst hso
   have hst' : IOwn (wr.setCell ⟨g, kk, none⟩ (.int .i64 (max (X.getD kk 0) (Y.getD kk 0)))) w.heap.size (.slice (some ⟨g, 0, none⟩) n cc) (fillM (overL Y) (kk + 1) X) := hst
   have HST := hide hst'
   have HSO := hide hso
   generalize X.getD kk 0 = y at cm HST HSO
   generalize Y.getD kk 0 = z at cy HST HSO
   clear hst hst' hso hml
   go_wp2_with fail
   go_roundg (n - (kk + 1))
   case measure => omega
   case rel => exact ⟨kk + 1, by omega, by omega, by go_num, (show Aside _ from bset HB.out (by show w.heap.size ≤ g; omega) _), HSO.out, HST.out⟩
  ·
   have hltz : ¬ (kk : Int) < (n : Int) := by omega
   have HK := hide (show fillM (overL Y) kk X = wishL t cells n by
    rw [show kk = X.length by rw [HL.out]; omega, fillM_full, HR.out])
   go_wp2_with fail
   go_ret
   exact ⟨_, rfl, by rw [← HK.out]; exact HM.out, HB.out⟩
end Go.Proofs.YtpfagdmmhgcmnaaGreatDoor

namespace Go.Proofs.YtpfagdmmhgcmnaaGreatDoor
open Go.RowKit
def colWishL (m : Nat) (t : Tbl) : List Int := if tblOk t = true then wishL t (gridL m t).1 (gridL m t).2.toNat else []
end Go.Proofs.YtpfagdmmhgcmnaaGreatDoor

namespace Go.Proofs.YtpfagdmmhgcmnaaGreatDoor
open Go.RowKit
def wideG (gap : Int) (xs : List Int) : Int := sumI xs + gap * max ((xs.length : Int) - 1) 0
theorem sum_le (B : Int) : ∀ (xs : List Int), (∀ x ∈ xs, 0 ≤ x ∧ x ≤ B) → 0 ≤ sumI xs ∧ sumI xs ≤ B * xs.length
 | [], _ => by simp [sumI_nil]
 | x :: xs, h => by
  have h1 := h x (List.mem_cons_self ..)
  have h2 := sum_le B xs (fun y hy => h y (List.mem_cons_of_mem _ hy))
  have h3 : sumI (x :: xs) = x + sumI xs := by first | exact sumI_cons .. | simp [sumI]
  rw [h3, List.length_cons, Int.natCast_add, Int.mul_add]
  omega
set_option maxHeartbeats 1000000 in
theorem impl_wide (A : Option Addr) (c : Nat) (xs : List Int) (gap : Int) (w : World) (hr : Rd intR w A xs) (hb : ∀ x ∈ xs, 0 ≤ x ∧ x ≤ 1000000) (hn : xs.length ≤ 1000) (hg : 0 ≤ gap ∧ gap ≤ 3) :
  Calls Tryz.prog 65 #[.slice A xs.length c, .int .i64 gap] w fun e w' => e = .returned (.int .i64 (wideG gap xs)) ∧ Below w.heap.size w w' := by
 have hS := impl_sumOf A c xs w hr hb (by omega)
 obtain ⟨s1, s2⟩ := sum_le _ xs hb
 have hmax := max_int
 have HW := hide (show wideG gap xs = sumI xs + gap * max ((xs.length : Int) - 1) 0 from rfl)
 generalize sumI xs = s at hS s1 s2 HW
 obtain ⟨m, hm⟩ : ∃ m, m = max ((xs.length : Int) - 1) 0 := ⟨_, rfl⟩
 have hm1 : 0 ≤ m ∧ m ≤ 1000 := by omega
 obtain ⟨p, hp⟩ : ∃ p, p = gap * m := ⟨_, rfl⟩
 have hp1 : 0 ≤ p ∧ p ≤ 3000 := by
  subst hp
  exact ⟨Int.mul_nonneg hg.1 hm1.1, Int.le_trans (Int.mul_le_mul hg.2 hm1.2 hm1.1 (by decide)) (by decide)⟩
 have t0 : IntKind.i64.wrap ((xs.length : Int) - 1) = (xs.length : Int) - 1 := by rw [IntKind.wrap_i64]; omega
 have t1 : IntKind.i64.wrap (gap * m) = p := by rw [← hp, IntKind.wrap_i64]; omega
 have t2 : IntKind.i64.wrap (s + p) = s + p := by rw [IntKind.wrap_i64]; omega
 rw [← hm, ← hp] at HW
 have hm' := hm.symm
 have HP := hide hp
 clear hm hp hr hb
 go_enter Tryz.func65, Tryz.ntmps65
 go_wp2_with (go_at_call 112; refine hS.mono ?_; rintro e w9 ⟨rfl, hw9⟩; obtain rfl := hw9.symm)
 go_ret
 exact ⟨by rw [HW.out]; try rfl, by first | exact brefl _ | exact balloc (brefl _) _ | exact bdrew (brefl _)⟩
set_option maxHeartbeats 1000000 in
theorem spec_l5Gaps (t : Tbl) (A : Option Addr) (c : Nat) (A' : Option Addr) (c' : Nat) (gr : Int) (n gl : Nat) (GA : Option Addr) (gc : Nat) (w : World) (hn : 1 ≤ n ∧ n ≤ 1000) (hg : 0 ≤ t.gap ∧ t.gap ≤ 3) :
  Calls Tryz.prog 91 #[.agg #[.slice A t.cols.length c, .int .i64 t.head, .int .i64 t.foot, .slice A' t.rows.length c', .int .i64 t.gap], .agg #[.int .i64 gr, .int .i64 n, .slice GA gl gc]] w fun e w' => e = .returned (.int .i64 (t.gap * ((n : Int) - 1))) ∧ Below w.heap.size w w' := by
 have t0 : IntKind.i64.wrap ((n : Int) - 1) = (n : Int) - 1 := by rw [IntKind.wrap_i64]; omega
 have hp1 : 0 ≤ t.gap * ((n : Int) - 1) ∧ t.gap * ((n : Int) - 1) ≤ 3000 :=
  ⟨Int.mul_nonneg hg.1 (by omega), Int.le_trans (Int.mul_le_mul hg.2 (show (n : Int) - 1 ≤ 1000 by omega) (by omega) (by decide)) (by decide)⟩
 have t1 : IntKind.i64.wrap (t.gap * ((n : Int) - 1)) = t.gap * ((n : Int) - 1) := by rw [IntKind.wrap_i64]; omega
 go_enter Tryz.func91, Tryz.ntmps91
 go_wp2_with fail
 go_ret
 exact ⟨rfl, balloc (balloc (brefl _) _) _⟩
end Go.Proofs.YtpfagdmmhgcmnaaGreatDoor

namespace Go.Proofs.YtpfagdmmhgcmnaaGreatDoor
open Go.RowKit
theorem irow_rd {w : World} {base c n : Nat} {A : Option Addr} {xs : List Int} (h : IOwn w base (.slice A n c) xs) : Rd intR w A xs := by
 obtain ⟨A2, c2, e, _, hr⟩ := h.rd
 injection e with e1 _ _
 rw [e1]; exact hr
end Go.Proofs.YtpfagdmmhgcmnaaGreatDoor

namespace Go.Proofs.YtpfagdmmhgcmnaaGreatDoor
open Go.RowKit
set_option maxHeartbeats 1000000 in
theorem spec_l1Max (x y : Int) (w : World) : Calls Tryz.prog 105 #[.int .i64 x, .int .i64 y] w fun e w' => e = .returned (.int .i64 (max x y)) ∧ w' = w := by
 by_cases h : x > y
 ·
  have hm := hide (show max x y = x by omega)
  go_enter Tryz.func105, Tryz.ntmps105
  go_wp2_with fail
  go_ret
  exact ⟨by rw [hm.out]; try rfl, rfl⟩
 ·
  have hm := hide (show max x y = y by omega)
  have h2 : ¬ y < x := h
  go_enter Tryz.func105, Tryz.ntmps105
  go_wp2_with fail
  go_ret
  exact ⟨by rw [hm.out]; try rfl, rfl⟩
end Go.Proofs.YtpfagdmmhgcmnaaGreatDoor

namespace Go.Proofs.YtpfagdmmhgcmnaaGreatDoor
open Go.RowKit
structure BMidS (vals : Nat → Value) (n : Nat) (dep : Nat → List Nat) (V : World) (ad : Addr) (sv : Value) (l : Array Bool) (vs : Nat → Value) (W : World) : Prop where
 mid : ∃ W1, BMid vals n V l vs W1 ∧ W = if l.getD (n - 1) false = true then W1.setCell ad sv else W1
 closed : ∀ j, l.getD j false = true → ∀ e ∈ dep j, l.getD e false = true
def LastD (n : Nat) (dep : Nat → List Nat) : Prop := ∀ L : Nat → Prop, (∀ j, L j → ∀ e ∈ dep j, L e) → L (n - 1) → ∀ j, j < n → L j
section
variable {vals : Nat → Value} {n : Nat} {dep : Nat → List Nat} {V : World} {ad : Addr} {sv : Value} {l : Array Bool} {vs : Nat → Value} {W W' : World}
theorem BMidS.start (hn : 0 < n) : BMidS vals n dep V ad sv (Array.replicate n false) vs V :=
 ⟨⟨V, BMid.start, by rw [if_neg]; simp [Array.getD]⟩, fun j hj => by simp [Array.getD] at hj⟩
theorem BMidS.size (h : BMidS vals n dep V ad sv l vs W) : l.size = n := by obtain ⟨W1, h1, _⟩ := h.mid; exact h1.size
theorem BMidS.open (h : BMidS vals n dep V ad sv l vs W) (hL : LastD n dep) {i : Nat} (hi : i < n) (hl : l.getD i true = false) : BMid vals n V l vs W := by
 obtain ⟨W1, h1, h2⟩ := h.mid
 have : ¬ l.getD (n - 1) false = true := fun h9 => by
  have := hL (fun j => l.getD j false = true) h.closed h9 i hi
  rw [getD_any (by rw [h1.size]; exact hi) false true, hl] at this
  cases this
 rw [if_neg this] at h2
 rw [h2]; exact h1
theorem BMidS.closed_set (h : BMidS vals n dep V ad sv l vs W) (i : Nat) (hd : ∀ e ∈ dep i, l.getD e false = true) (hi : i < n) :
  ∀ j, (l.setIfInBounds i true).getD j false = true → ∀ e ∈ dep j, (l.setIfInBounds i true).getD e false = true := by
 intro j hj e he
 have hup : l.getD e false = true → (l.setIfInBounds i true).getD e false = true := fun h0 => by
  by_cases e1 : e = i
  ·
   subst e1; simp [Array.getD, h.size, hi]
  ·
   rw [getD_set_ne false (Ne.symm e1)]; exact h0
 by_cases e2 : j = i
 ·
  subst e2; exact hup (hd e he)
 ·
  rw [getD_set_ne false (Ne.symm e2)] at hj
  exact hup (h.closed j hj e he)
theorem BMidS.next (h : BMidS vals n dep V ad sv l vs W) (hL : LastD n dep) (i : Nat) (hi : i < n - 1) (hl : l.getD i true = false) (v : Value) (hv : v = vals i) (hd : ∀ e ∈ dep i, l.getD e false = true) (hb : Below W.heap.size W W') :
  BMidS vals n dep V ad sv (l.setIfInBounds i true) (updV vs i v) W' := by
 have ho := h.open hL (by omega) hl
 refine ⟨⟨W', ho.next i v hv hb, ?_⟩, h.closed_set i hd (by omega)⟩
 rw [if_neg]
 rw [getD_set_ne false (by omega)]
 intro h9
 have := hL (fun j => l.getD j false = true) h.closed h9 i (by omega)
 rw [getD_any (by rw [h.size]; omega) false true, hl] at this
 cases this
theorem BMidS.still (h : BMidS vals n dep V ad sv l vs W) (hL : LastD n dep) (i : Nat) (hi : i < n - 1) (hl : l.getD i true = false) (v : Value) (hv : v = vals i) (hd : ∀ e ∈ dep i, l.getD e false = true) :
  BMidS vals n dep V ad sv (l.setIfInBounds i true) (updV vs i v) W := h.next hL i hi hl v hv hd (brefl W)
theorem BMidS.last (h : BMidS vals n dep V ad sv l vs W) (hL : LastD n dep) (i : Nat) (hi : i + 1 = n) (hl : l.getD i true = false) (v : Value) (hv : v = vals i) (hd : ∀ e ∈ dep i, l.getD e false = true) :
  BMidS vals n dep V ad sv (l.setIfInBounds i true) (updV vs i v) (W.setCell ad sv) := by
 have ho := h.open hL (by omega) hl
 refine ⟨⟨W, ho.still i v hv, ?_⟩, h.closed_set i hd (by omega)⟩
 rw [if_pos]
 have : n - 1 = i := by omega
 rw [this]
 simp [Array.getD, ho.size]; omega
theorem BMidS.fin (h : BMidS vals n dep V ad sv l vs W) (hn : 0 < n) (hall : ∀ j, j < n → l.getD j true = true) : ∃ W1, BMid vals n V l vs W1 ∧ W = W1.setCell ad sv := by
 obtain ⟨W1, h1, h2⟩ := h.mid
 have h9 := hall (n - 1) (by omega)
 rw [getD_any (by rw [h1.size]; omega) true false] at h9
 rw [if_pos h9] at h2
 exact ⟨W1, h1, h2⟩
theorem dep_nil : ∀ e ∈ ([] : List Nat), l.getD e false = true := fun _ h => by cases h
theorem dep_cons {a : Nat} {xs : List Nat} (h : l.getD a false = true) (ht : ∀ e ∈ xs, l.getD e false = true) : ∀ e ∈ a :: xs, l.getD e false = true := List.forall_mem_cons.2 ⟨h, ht⟩
end
end Go.Proofs.YtpfagdmmhgcmnaaGreatDoor

namespace Go.Proofs.YtpfagdmmhgcmnaaGreatDoor
open Go.RowKit
theorem fieldC1 (a b : Int) (W : World) : (Instr.field 43 (.agg #[.int .i64 a, .int .i64 b]) 1).run Tryz.prog W = .ok (.int .i64 b) W := by kernel_rfl
set_option linter.unusedSimpArgs false in
set_option maxRecDepth 100000 in
set_option maxHeartbeats 40000000 in
theorem spec_l5Least (t : Tbl) (A : Option Addr) (c : Nat) (A' : Option Addr) (c' : Nat) (gr : Int) (n : Nat) (cells : List GCell) (GA : Option Addr) (gc : Nat) (w : World) (hc : Rd colR w A t.cols) (hr : Rd rowR w A' t.rows) (hG : Rd gcR w GA cells)
  (hg : 0 ≤ t.gap ∧ t.gap ≤ 3) (hn : 1 ≤ n ∧ n ≤ 1000) (hcell : ∀ x ∈ cells, CellIn n (fun c => leastT (textOf t c)) x ∧ CellAt t x ∧ 0 ≤ leastT (textOf t x)) (hcl : cells.length ≤ 1000) :
  Calls Tryz.prog 56 #[.agg #[.slice A t.cols.length c, .int .i64 t.head, .int .i64 t.foot, .slice A' t.rows.length c', .int .i64 t.gap], .agg #[.int .i64 gr, .int .i64 n, .slice GA cells.length gc]] w fun e w' => ∃ v, e = .returned v ∧ IOwn w' w.heap.size v (leastL t cells n) ∧ Below w.heap.size w w' := by
 have hZ := fun (W : World) => spec_l5Zero gr n cells GA gc W (by omega)
 have hM := fun (W : World) (h : Below w.heap.size w W) (FA : Option Addr) (fc : Nat) hf => spec_l5Need t A c A' c' gr n cells GA gc true FA fc W (hr.below h) (hG.below h) hf hg hn (by simpa using hcell) hcl
 have hS := fun (W : World) (h : Below w.heap.size w W) (col : Nat) => spec_l5Said t A c A' c' col W (hc.below h) (by omega)
 have hlen : (made t.gap (fun c => leastT (textOf t c)) cells n).length = n := (made_spec hg.1 (fun x hx => (hcell x hx).1)).1.1
 simp only [if_true] at hM
 generalize hX : made t.gap (fun c => leastT (textOf t c)) cells n = X at hM hlen
 have HX := hide hX
 have HL := hide hlen
 clear hc hr hG hcell hX hlen
 go_enter Tryz.func56, Tryz.ntmps56
 have HB := hide (balloc (balloc (brefl w) (.cells #[.slice A t.cols.length c, .int .i64 t.head, .int .i64 t.foot, .slice A' t.rows.length c', .int .i64 t.gap] 26)) (.cells #[.int .i64 gr, .int .i64 n, .slice GA cells.length gc] 35))
 go_upto_region 1 with fail
 go_cut [5] from 5 to 12 (fun s5 wx => ∃ g cc, s5 = .slice (some ⟨g, 0, none⟩) n cc ∧ w.heap.size + 2 ≤ g ∧ Aside (Below w.heap.size w wx) ∧ Aside (IOwn wx w.heap.size (.slice (some ⟨g, 0, none⟩) n cc) X) ∧ wx.cell? ⟨w.heap.size, 0, none⟩ = some (.slice A t.cols.length c) ∧ wx.cell? ⟨w.heap.size, 1, none⟩ = some (.int .i64 t.head) ∧ wx.cell? ⟨w.heap.size, 2, none⟩ = some (.int .i64 t.foot) ∧ wx.cell? ⟨w.heap.size, 3, none⟩ = some (.slice A' t.rows.length c') ∧ wx.cell? ⟨w.heap.size, 4, none⟩ = some (.int .i64 t.gap))
 case first =>
  go_region_with (first
   | (go_at_call 103; refine (hZ _).mono ?_; rintro e w2 ⟨v, rfl, hI, hb2⟩; obtain ⟨c2, f2, s2⟩ := seenBk w.heap.size (by first | (simp; omega) | simp [*]) hb2; obtain ⟨c3, f3, s3⟩ := seenBk (w.heap.size + 1) (by first | (simp; omega) | simp [*]) hb2; obtain ⟨A2, d2, rfl⟩ := hI.form; have hrd := irow_rd hI; rw [List.length_replicate])
   | (go_at_call 102; refine (hM _ ?_ A2 d2 ?_).mono ?_; (first | exact step HB.out hb2 | exact step (bdrew HB.out) hb2 | exact bdrew (step HB.out hb2) | exact bdrew (step (bdrew HB.out) hb2)); (first | exact hrd | exact hrd.below (bdrew (brefl _))); rintro e w3 ⟨v, rfl, hI3, hb3⟩; obtain ⟨c4, f4, s4⟩ := seenBk w.heap.size (by first | (simp; omega) | simp [*]) hb3; obtain ⟨g, cc, rfl, hg1, hg2, _, _⟩ := hI3.at (by rw [HL.out]; exact hn.1); rw [HL.out]; rw [HL.out] at hI3))
  all_goals
   have hsz : w.heap.size ≤ w2.heap.size := Nat.le_trans HB.out.size hb2.size
   have hsz2 : w.heap.size + 2 ≤ w2.heap.size := by have h0 := hb2.size; simp at h0; omega
   have y0 : w3.cell? ⟨w.heap.size, 0, none⟩ = some (.slice A t.cols.length c) := by simp [c4, c2]
   have y1 : w3.cell? ⟨w.heap.size, 1, none⟩ = some (.int .i64 t.head) := by simp [c4, c2]
   have y2 : w3.cell? ⟨w.heap.size, 2, none⟩ = some (.int .i64 t.foot) := by simp [c4, c2]
   have y3 : w3.cell? ⟨w.heap.size, 3, none⟩ = some (.slice A' t.rows.length c') := by simp [c4, c2]
   have y4 : w3.cell? ⟨w.heap.size, 4, none⟩ = some (.int .i64 t.gap) := by simp [c4, c2]
   go_wp2_with fail
   go_meet
   case rel =>
    refine ⟨g, cc, rfl, Nat.le_trans hsz2 hg1, (show Aside _ from ?_), (show Aside _ from ?_), y0, y1, y2, y3, y4⟩
    ·
     show Below _ _ _
     (repeat' (with_reducible first | exact HB.out | refine bdrew ?_ | refine step ?_ (by with_reducible assumption)))
    ·
     first
      | exact hI3.base hsz
      | exact (hI3.base hsz).below (bdrew (brefl _))
 case rest =>
 obtain ⟨g, cc, rfl, hgw, HB2, HI, y0, y1, y2, y3, y4⟩ := hcut
 have HY := hide (And.intro y0 (And.intro y1 (And.intro y2 (And.intro y3 y4))))
 clear y0 y1 y2 y3 y4
 have hfc := fieldC
 go_wp2_with fail
 go_loopg [6] n (fun gg s6 wr => ∃ kk : Nat, kk ≤ n ∧ n - kk ≤ gg ∧ s6 = .int .i64 kk ∧ Aside (Below w.heap.size w wr) ∧ Aside (IOwn wr w.heap.size (.slice (some ⟨g, 0, none⟩) n cc) (fillM (saidN t) kk X)) ∧ Aside (wr.cell? ⟨w.heap.size, 0, none⟩ = some (.slice A t.cols.length c) ∧ wr.cell? ⟨w.heap.size, 1, none⟩ = some (.int .i64 t.head) ∧ wr.cell? ⟨w.heap.size, 2, none⟩ = some (.int .i64 t.foot) ∧ wr.cell? ⟨w.heap.size, 3, none⟩ = some (.slice A' t.rows.length c') ∧ wr.cell? ⟨w.heap.size, 4, none⟩ = some (.int .i64 t.gap)))
 case atStart => exact ⟨0, Nat.zero_le _, by omega, rfl, HB2.out, (show Aside _ from by rw [fillM_zero]; exact HI.out), HY.out⟩
 case round =>
  obtain ⟨kk, hkk, hgg, rfl, HB, HM, HC⟩ := hrel
  by_cases hlt : kk < n
  ·
   have hltz : (kk : Int) < (n : Int) := by omega
   have y0 := HC.out.1
   have y1 := HC.out.2.1
   have y2 := HC.out.2.2.1
   have y3 := HC.out.2.2.2.1
   have y4 := HC.out.2.2.2.2
   have hS5 := hS wr HB.out kk
   obtain ⟨k0, hk0⟩ : ∃ k0, (saidOf t kk).k = k0 := ⟨_, rfl⟩
   obtain ⟨n0, hn0⟩ : ∃ n0, (saidOf t kk).n = n0 := ⟨_, rfl⟩
   have hS6 := hS
   have HST : Hid (∀ x, saidN t kk x = if k0 = 1 then max x n0 else x) := fun x => by unfold saidN; rw [hk0, hn0]
   rw [hk0, hn0] at hS5
   have HN := hide (And.intro hk0 hn0)
   clear hk0 hn0
   have hwl : w.heap.size < wr.heap.size := by
    obtain ⟨g', c2, e, _, h2, _⟩ := HM.out.at (by rw [fillM_length, HL.out]; omega)
    injection e with e; injection e with e; injection e with e; omega
   go_wp2_with fail
   refine hS5.mono ?_
   rintro e w5 ⟨rfl, hb5⟩
   obtain ⟨c5, f5, s5⟩ := seenBk w.heap.size (by first | (simp; omega) | simp [*]) hb5
   have HB5 := hide (step HB.out hb5)
   have HM5 := hide (HM.out.below hb5)
   by_cases h1 : k0 = 1
   ·
    subst h1
    clear hS5
    go_wp2_with fail
    obtain ⟨y, hy⟩ : ∃ y, X.getD kk 0 = y := ⟨_, rfl⟩
    have HMD : Hid (IOwn w5.drew w.heap.size (.slice (some ⟨g, 0, none⟩) n cc) (fillM (saidN t) kk X)) := HM5.out.below (bdrew (brefl _))
    have HBD := hide (bdrew HB5.out)
    have z0 : w5.drew.cell? ⟨w.heap.size, 0, none⟩ = some (.slice A t.cols.length c) := by simp [c5, y0]
    have z1 : w5.drew.cell? ⟨w.heap.size, 1, none⟩ = some (.int .i64 t.head) := by simp [c5, y1]
    have z2 : w5.drew.cell? ⟨w.heap.size, 2, none⟩ = some (.int .i64 t.foot) := by simp [c5, y2]
    have z3 : w5.drew.cell? ⟨w.heap.size, 3, none⟩ = some (.slice A' t.rows.length c') := by simp [c5, y3]
    have z4 : w5.drew.cell? ⟨w.heap.size, 4, none⟩ = some (.int .i64 t.gap) := by simp [c5, y4]
    have hml : kk < (fillM (saidN t) kk X).length := by rw [fillM_length, HL.out]; omega
    have cm := HMD.out.cell (j := kk) hml
    rw [fillM_at, hy] at cm
    have HFZ : Hid (∀ W, Below w5.drew.heap.size w5.drew W → W.frozen? ⟨g, kk, none⟩ = false) := fun W h => (HMD.out.below h).frozen kk
    have HSS : Hid (∀ W, Below w5.drew.heap.size w5.drew W → IOwn (W.setCell ⟨g, kk, none⟩ (.int .i64 (max y n0))) w.heap.size (.slice (some ⟨g, 0, none⟩) n cc) (fillM (saidN t) (kk + 1) X)) := fun W h => by
     have h1 := (HMD.out.below h).store kk (saidN t kk (X.getD kk 0))
     have h2 : saidN t kk (X.getD kk 0) = max y n0 := by rw [hy, HST.out]; simp
     rw [fillM_set _ _ _ (by rw [HL.out]; omega), h2] at h1
     exact h1
    have HS6 : Hid (∀ W, Below w5.drew.heap.size w5.drew W → Calls Tryz.prog 104 #[.agg #[.slice A t.cols.length c, .int .i64 t.head, .int .i64 t.foot, .slice A' t.rows.length c', .int .i64 t.gap], .int .i64 kk] W fun e w' => e = .returned (.agg #[.int .i64 1, .int .i64 n0]) ∧ Below W.heap.size W w') := fun W h => by
     have h1 := hS6 W (step HBD.out h) kk
     rw [HN.out.1, HN.out.2] at h1
     exact h1
    have hgz : w.heap.size < g := by omega
    clear hS6 hml hy y0 y1 y2 y3 y4 c5 f5 hS HM
    obtain ⟨vals, hvals⟩ : ∃ f : Nat → Value, f = (fun j => match j with | 0 => .slice (some ⟨g, 0, none⟩) n cc | 1 => .int .i64 ↑kk | 2 => .slice (some ⟨g, 0, none⟩) n cc | 3 => .int .i64 ↑kk | 4 => .pointer (some ⟨g, kk, none⟩) | 5 => .int .i64 y | 6 => .agg #[.slice A t.cols.length c, .int .i64 t.head, .int .i64 t.foot, .slice A' t.rows.length c', .int .i64 t.gap] | 7 => .int .i64 ↑kk | 8 => .agg #[.int .i64 1, .int .i64 n0] | 9 => .int .i64 n0 | 10 => .int .i64 (max y n0) | 11 => .pointer (some ⟨g, kk, none⟩) | 12 => undef | _ => undef) := ⟨_, rfl⟩
    have e0 : vals 0 = .slice (some ⟨g, 0, none⟩) n cc := congrFun hvals 0
    have e1 : vals 1 = .int .i64 ↑kk := congrFun hvals 1
    have e2 : vals 2 = .slice (some ⟨g, 0, none⟩) n cc := congrFun hvals 2
    have e3 : vals 3 = .int .i64 ↑kk := congrFun hvals 3
    have e4 : vals 4 = .pointer (some ⟨g, kk, none⟩) := congrFun hvals 4
    have e5 : vals 5 = .int .i64 y := congrFun hvals 5
    have e6 : vals 6 = .agg #[.slice A t.cols.length c, .int .i64 t.head, .int .i64 t.foot, .slice A' t.rows.length c', .int .i64 t.gap] := congrFun hvals 6
    have e7 : vals 7 = .int .i64 ↑kk := congrFun hvals 7
    have e8 : vals 8 = .agg #[.int .i64 1, .int .i64 n0] := congrFun hvals 8
    have e9 : vals 9 = .int .i64 n0 := congrFun hvals 9
    have e10 : vals 10 = .int .i64 (max y n0) := congrFun hvals 10
    have e11 : vals 11 = .pointer (some ⟨g, kk, none⟩) := congrFun hvals 11
    have e12 : vals 12 = undef := congrFun hvals 12
    clear hvals
    obtain ⟨dep, hdep⟩ : ∃ f : Nat → List Nat, f = (fun j => match j with | 4 => [2, 3] | 5 => [4] | 8 => [6, 7] | 9 => [8] | 10 => [5, 9, 8] | 11 => [0, 1] | 12 => [11, 10] | _ => []) := ⟨_, rfl⟩
    have d0 : dep 0 = [] := congrFun hdep 0
    have d1 : dep 1 = [] := congrFun hdep 1
    have d2 : dep 2 = [] := congrFun hdep 2
    have d3 : dep 3 = [] := congrFun hdep 3
    have d4 : dep 4 = [2, 3] := congrFun hdep 4
    have d5 : dep 5 = [4] := congrFun hdep 5
    have d6 : dep 6 = [] := congrFun hdep 6
    have d7 : dep 7 = [] := congrFun hdep 7
    have d8 : dep 8 = [6, 7] := congrFun hdep 8
    have d9 : dep 9 = [8] := congrFun hdep 9
    have d10 : dep 10 = [5, 9, 8] := congrFun hdep 10
    have d11 : dep 11 = [0, 1] := congrFun hdep 11
    have d12 : dep 12 = [11, 10] := congrFun hdep 12
    clear hdep
    have HLD : LastD 13 dep := by
     intro L hc k12
     have k11 : L 11 := hc 12 k12 11 (by rw [d12]; simp)
     have k10 : L 10 := hc 12 k12 10 (by rw [d12]; simp)
     have k9 : L 9 := hc 10 k10 9 (by rw [d10]; simp)
     have k8 : L 8 := hc 10 k10 8 (by rw [d10]; simp)
     have k7 : L 7 := hc 8 k8 7 (by rw [d8]; simp)
     have k6 : L 6 := hc 8 k8 6 (by rw [d8]; simp)
     have k5 : L 5 := hc 10 k10 5 (by rw [d10]; simp)
     have k4 : L 4 := hc 5 k5 4 (by rw [d5]; simp)
     have k3 : L 3 := hc 4 k4 3 (by rw [d4]; simp)
     have k2 : L 2 := hc 4 k4 2 (by rw [d4]; simp)
     have k1 : L 1 := hc 11 k11 1 (by rw [d11]; simp)
     have k0 : L 0 := hc 11 k11 0 (by rw [d11]; simp)
     intro j hj
     obtain rfl | rfl | rfl | rfl | rfl | rfl | rfl | rfl | rfl | rfl | rfl | rfl | rfl : j = 0 ∨ j = 1 ∨ j = 2 ∨ j = 3 ∨ j = 4 ∨ j = 5 ∨ j = 6 ∨ j = 7 ∨ j = 8 ∨ j = 9 ∨ j = 10 ∨ j = 11 ∨ j = 12 := by omega
     all_goals assumption
    refine wp_region_inv (fun l a W => ∃ vs : Nat → Value, a = ⟨List.toArray (.agg #[.slice A t.cols.length c, .int .i64 t.head, .int .i64 t.foot, .slice A' t.rows.length c', .int .i64 t.gap] :: .agg #[.int .i64 gr, .int .i64 ↑n, .slice GA cells.length gc] :: .pointer (some ⟨w.heap.size, 0, none⟩) :: .pointer (some ⟨w.heap.size + 1, 0, none⟩) :: .slice none 0 0 :: .slice (some ⟨g, 0, none⟩) n cc :: .int .i64 ↑kk :: u7 :: u8 :: u9 :: u10 :: u11 :: .int .i64 ↑kk :: .slice (some ⟨g, 0, none⟩) n cc :: .int .i64 ↑n :: .bool true :: u16 :: u17 :: .agg #[.slice A t.cols.length c, .int .i64 t.head, .int .i64 t.foot, .slice A' t.rows.length c', .int .i64 t.gap] :: .int .i64 ↑kk :: .agg #[.int .i64 1, .int .i64 n0] :: .int .i64 1 :: .bool true :: vs 0 :: vs 1 :: vs 2 :: vs 3 :: vs 4 :: vs 5 :: vs 6 :: vs 7 :: vs 8 :: vs 9 :: vs 10 :: vs 11 :: undef :: []), []⟩ ∧ BMidS vals 13 dep (w5.drew) ⟨g, kk, none⟩ (.int .i64 (max y n0)) l vs W) (by kernel_rfl) ?top ?start ?step ?fin
    case top =>
     clear e0 e1 e2 e3 e4 e5 e6 e7 e8 e9 e10 e11 e12 d0 d1 d2 d3 d4 d5 d6 d7 d8 d9 d10 d11 d12
     intro j o ho e he
     have hj : j < 13 := (Array.getElem?_eq_some_iff.1 ho).1
     have hA : (o.after.all fun e => decide (e.on < j)) = true := by
      obtain rfl | rfl | rfl | rfl | rfl | rfl | rfl | rfl | rfl | rfl | rfl | rfl | rfl : j = 0 ∨ j = 1 ∨ j = 2 ∨ j = 3 ∨ j = 4 ∨ j = 5 ∨ j = 6 ∨ j = 7 ∨ j = 8 ∨ j = 9 ∨ j = 10 ∨ j = 11 ∨ j = 12 := by omega
      all_goals
       simp only [List.getElem?_toArray, List.getElem?_cons_zero, List.getElem?_cons_succ, Option.some.injEq] at ho
       subst ho
       first | decide | kernel_rfl | simp
     simpa using Array.all_eq_true'.1 hA e he
    case start => exact ⟨(fun j => match j with | 0 => u23 | 1 => u24 | 2 => u25 | 3 => u26 | 4 => u27 | 5 => u28 | 6 => u29 | 7 => u30 | 8 => u31 | 9 => u32 | 10 => u33 | 11 => u34 | _ => undef), rfl, BMidS.start (by decide)⟩
    case step =>
     rintro l a W i o ho hl hpre hsz ⟨vs, rfl, hM0⟩ K hK
     have hi : i < 13 := (Array.getElem?_eq_some_iff.1 ho).1
     have hM := hM0.open HLD hi hl
     obtain rfl | rfl | rfl | rfl | rfl | rfl | rfl | rfl | rfl | rfl | rfl | rfl | rfl : i = 0 ∨ i = 1 ∨ i = 2 ∨ i = 3 ∨ i = 4 ∨ i = 5 ∨ i = 6 ∨ i = 7 ∨ i = 8 ∨ i = 9 ∨ i = 10 ∨ i = 11 ∨ i = 12 := by omega
     ·
      simp only [List.getElem?_toArray, List.getElem?_cons_zero, List.getElem?_cons_succ, Option.some.injEq] at ho
      subst ho
      have hdp : ∀ e ∈ dep 0, l.getD e false = true := by rw [d0]; exact dep_nil
      have e := e0
      clear e0 e1 e2 e3 e4 e5 e6 e7 e8 e9 e10 e11 e12 d0 d1 d2 d3 d4 d5 d6 d7 d8 d9 d10 d11 d12
      go_simp
      exact hK.out _ _ ⟨updV vs 0 (.slice (some ⟨g, 0, none⟩) n cc), rfl, hM0.still HLD 0 (by decide) hl _ e.symm hdp⟩
     ·
      simp only [List.getElem?_toArray, List.getElem?_cons_zero, List.getElem?_cons_succ, Option.some.injEq] at ho
      subst ho
      have hdp : ∀ e ∈ dep 1, l.getD e false = true := by rw [d1]; exact dep_nil
      have e := e1
      clear e0 e1 e2 e3 e4 e5 e6 e7 e8 e9 e10 e11 e12 d0 d1 d2 d3 d4 d5 d6 d7 d8 d9 d10 d11 d12
      go_simp
      exact hK.out _ _ ⟨updV vs 1 (.int .i64 ↑kk), rfl, hM0.still HLD 1 (by decide) hl _ e.symm hdp⟩
     ·
      simp only [List.getElem?_toArray, List.getElem?_cons_zero, List.getElem?_cons_succ, Option.some.injEq] at ho
      subst ho
      have hdp : ∀ e ∈ dep 2, l.getD e false = true := by rw [d2]; exact dep_nil
      have e := e2
      clear e0 e1 e2 e3 e4 e5 e6 e7 e8 e9 e10 e11 e12 d0 d1 d2 d3 d4 d5 d6 d7 d8 d9 d10 d11 d12
      go_simp
      exact hK.out _ _ ⟨updV vs 2 (.slice (some ⟨g, 0, none⟩) n cc), rfl, hM0.still HLD 2 (by decide) hl _ e.symm hdp⟩
     ·
      simp only [List.getElem?_toArray, List.getElem?_cons_zero, List.getElem?_cons_succ, Option.some.injEq] at ho
      subst ho
      have hdp : ∀ e ∈ dep 3, l.getD e false = true := by rw [d3]; exact dep_nil
      have e := e3
      clear e0 e1 e2 e3 e4 e5 e6 e7 e8 e9 e10 e11 e12 d0 d1 d2 d3 d4 d5 d6 d7 d8 d9 d10 d11 d12
      go_simp
      exact hK.out _ _ ⟨updV vs 3 (.int .i64 ↑kk), rfl, hM0.still HLD 3 (by decide) hl _ e.symm hdp⟩
     ·
      simp only [List.getElem?_toArray, List.getElem?_cons_zero, List.getElem?_cons_succ, Option.some.injEq] at ho
      subst ho
      have v2 : vs 2 = .slice (some ⟨g, 0, none⟩) n cc := (hM.held 2 (hpre ⟨2, .data⟩ (by simp) rfl)).trans e2
      have v3 : vs 3 = .int .i64 ↑kk := (hM.held 3 (hpre ⟨3, .data⟩ (by simp) rfl)).trans e3
      have hdp : ∀ e ∈ dep 4, l.getD e false = true := by rw [d4]; exact (dep_cons (hpre ⟨2, .data⟩ (by simp) rfl) (dep_cons (hpre ⟨3, .data⟩ (by simp) rfl) dep_nil))
      have e := e4
      clear e0 e1 e2 e3 e4 e5 e6 e7 e8 e9 e10 e11 e12 d0 d1 d2 d3 d4 d5 d6 d7 d8 d9 d10 d11 d12
      rw [v2, v3]
      go_simp
      exact hK.out _ _ ⟨updV vs 4 (.pointer (some ⟨g, kk, none⟩)), by simp [updV, v2, v3], hM0.still HLD 4 (by decide) hl _ e.symm hdp⟩
     ·
      simp only [List.getElem?_toArray, List.getElem?_cons_zero, List.getElem?_cons_succ, Option.some.injEq] at ho
      subst ho
      have v4 : vs 4 = .pointer (some ⟨g, kk, none⟩) := (hM.held 4 (hpre ⟨4, .data⟩ (by simp) rfl)).trans e4
      have hdp : ∀ e ∈ dep 5, l.getD e false = true := by rw [d5]; exact (dep_cons (hpre ⟨4, .data⟩ (by simp) rfl) dep_nil)
      have e := e5
      clear e0 e1 e2 e3 e4 e5 e6 e7 e8 e9 e10 e11 e12 d0 d1 d2 d3 d4 d5 d6 d7 d8 d9 d10 d11 d12
      have x0 := keepW hM.below cm
      rw [v4]
      go_simp
      exact hK.out _ _ ⟨updV vs 5 (.int .i64 y), by simp [updV, v4], hM0.still HLD 5 (by decide) hl _ e.symm hdp⟩
     ·
      simp only [List.getElem?_toArray, List.getElem?_cons_zero, List.getElem?_cons_succ, Option.some.injEq] at ho
      subst ho
      have hdp : ∀ e ∈ dep 6, l.getD e false = true := by rw [d6]; exact dep_nil
      have e := e6
      clear e0 e1 e2 e3 e4 e5 e6 e7 e8 e9 e10 e11 e12 d0 d1 d2 d3 d4 d5 d6 d7 d8 d9 d10 d11 d12
      have x0 := keepW hM.below z0
      have x1 := keepW hM.below z1
      have x2 := keepW hM.below z2
      have x3 := keepW hM.below z3
      have x4 := keepW hM.below z4
      go_simp
      exact hK.out _ _ ⟨updV vs 6 (.agg #[.slice A t.cols.length c, .int .i64 t.head, .int .i64 t.foot, .slice A' t.rows.length c', .int .i64 t.gap]), rfl, hM0.still HLD 6 (by decide) hl _ e.symm hdp⟩
     ·
      simp only [List.getElem?_toArray, List.getElem?_cons_zero, List.getElem?_cons_succ, Option.some.injEq] at ho
      subst ho
      have hdp : ∀ e ∈ dep 7, l.getD e false = true := by rw [d7]; exact dep_nil
      have e := e7
      clear e0 e1 e2 e3 e4 e5 e6 e7 e8 e9 e10 e11 e12 d0 d1 d2 d3 d4 d5 d6 d7 d8 d9 d10 d11 d12
      go_simp
      exact hK.out _ _ ⟨updV vs 7 (.int .i64 ↑kk), rfl, hM0.still HLD 7 (by decide) hl _ e.symm hdp⟩
     ·
      simp only [List.getElem?_toArray, List.getElem?_cons_zero, List.getElem?_cons_succ, Option.some.injEq] at ho
      subst ho
      have v6 : vs 6 = .agg #[.slice A t.cols.length c, .int .i64 t.head, .int .i64 t.foot, .slice A' t.rows.length c', .int .i64 t.gap] := (hM.held 6 (hpre ⟨6, .data⟩ (by simp) rfl)).trans e6
      have v7 : vs 7 = .int .i64 ↑kk := (hM.held 7 (hpre ⟨7, .data⟩ (by simp) rfl)).trans e7
      have hdp : ∀ e ∈ dep 8, l.getD e false = true := by rw [d8]; exact (dep_cons (hpre ⟨6, .data⟩ (by simp) rfl) (dep_cons (hpre ⟨7, .data⟩ (by simp) rfl) dep_nil))
      have e := e8
      clear e0 e1 e2 e3 e4 e5 e6 e7 e8 e9 e10 e11 e12 d0 d1 d2 d3 d4 d5 d6 d7 d8 d9 d10 d11 d12
      rw [v6, v7]
      go_simp
      refine (HS6.out _ hM.below).mono ?_
      rintro e5 W5 ⟨rfl, hb5⟩
      exact hK.out _ _ ⟨updV vs 8 (.agg #[.int .i64 1, .int .i64 n0]), by simp [updV, v6, v7], hM0.next HLD 8 (by decide) hl _ e.symm hdp hb5⟩
     ·
      simp only [List.getElem?_toArray, List.getElem?_cons_zero, List.getElem?_cons_succ, Option.some.injEq] at ho
      subst ho
      have v8 : vs 8 = .agg #[.int .i64 1, .int .i64 n0] := (hM.held 8 (hpre ⟨8, .data⟩ (by simp) rfl)).trans e8
      have hdp : ∀ e ∈ dep 9, l.getD e false = true := by rw [d9]; exact (dep_cons (hpre ⟨8, .data⟩ (by simp) rfl) dep_nil)
      have e := e9
      clear e0 e1 e2 e3 e4 e5 e6 e7 e8 e9 e10 e11 e12 d0 d1 d2 d3 d4 d5 d6 d7 d8 d9 d10 d11 d12
      have hfc1 := fieldC1
      rw [v8]
      go_simp
      exact hK.out _ _ ⟨updV vs 9 (.int .i64 n0), by simp [updV, v8], hM0.still HLD 9 (by decide) hl _ e.symm hdp⟩
     ·
      simp only [List.getElem?_toArray, List.getElem?_cons_zero, List.getElem?_cons_succ, Option.some.injEq] at ho
      subst ho
      have v5 : vs 5 = .int .i64 y := (hM.held 5 (hpre ⟨5, .data⟩ (by simp) rfl)).trans e5
      have v9 : vs 9 = .int .i64 n0 := (hM.held 9 (hpre ⟨9, .data⟩ (by simp) rfl)).trans e9
      have v8 : vs 8 = .agg #[.int .i64 1, .int .i64 n0] := (hM.held 8 (hpre ⟨8, .chain⟩ (by simp) rfl)).trans e8
      have hdp : ∀ e ∈ dep 10, l.getD e false = true := by rw [d10]; exact (dep_cons (hpre ⟨5, .data⟩ (by simp) rfl) (dep_cons (hpre ⟨9, .data⟩ (by simp) rfl) (dep_cons (hpre ⟨8, .chain⟩ (by simp) rfl) dep_nil)))
      have e := e10
      clear e0 e1 e2 e3 e4 e5 e6 e7 e8 e9 e10 e11 e12 d0 d1 d2 d3 d4 d5 d6 d7 d8 d9 d10 d11 d12
      rw [v5, v9, v8]
      go_simp
      refine (spec_l1Max y n0 _).mono ?_
      rintro e5 W5 ⟨rfl, hq⟩
      exact hK.out _ _ ⟨updV vs 10 (.int .i64 (max y n0)), by simp [updV, v5, v9, v8], hM0.next HLD 10 (by decide) hl _ e.symm hdp (by rw [hq]; exact brefl _)⟩
     ·
      simp only [List.getElem?_toArray, List.getElem?_cons_zero, List.getElem?_cons_succ, Option.some.injEq] at ho
      subst ho
      have v0 : vs 0 = .slice (some ⟨g, 0, none⟩) n cc := (hM.held 0 (hpre ⟨0, .data⟩ (by simp) rfl)).trans e0
      have v1 : vs 1 = .int .i64 ↑kk := (hM.held 1 (hpre ⟨1, .data⟩ (by simp) rfl)).trans e1
      have hdp : ∀ e ∈ dep 11, l.getD e false = true := by rw [d11]; exact (dep_cons (hpre ⟨0, .data⟩ (by simp) rfl) (dep_cons (hpre ⟨1, .data⟩ (by simp) rfl) dep_nil))
      have e := e11
      clear e0 e1 e2 e3 e4 e5 e6 e7 e8 e9 e10 e11 e12 d0 d1 d2 d3 d4 d5 d6 d7 d8 d9 d10 d11 d12
      rw [v0, v1]
      go_simp
      exact hK.out _ _ ⟨updV vs 11 (.pointer (some ⟨g, kk, none⟩)), by simp [updV, v0, v1], hM0.still HLD 11 (by decide) hl _ e.symm hdp⟩
     ·
      simp only [List.getElem?_toArray, List.getElem?_cons_zero, List.getElem?_cons_succ, Option.some.injEq] at ho
      subst ho
      have v11 : vs 11 = .pointer (some ⟨g, kk, none⟩) := (hM.held 11 (hpre ⟨11, .data⟩ (by simp) rfl)).trans e11
      have v10 : vs 10 = .int .i64 (max y n0) := (hM.held 10 (hpre ⟨10, .data⟩ (by simp) rfl)).trans e10
      have hdp : ∀ e ∈ dep 12, l.getD e false = true := by rw [d12]; exact (dep_cons (hpre ⟨11, .data⟩ (by simp) rfl) (dep_cons (hpre ⟨10, .data⟩ (by simp) rfl) dep_nil))
      have e := e12
      clear e0 e1 e2 e3 e4 e5 e6 e7 e8 e9 e10 e11 e12 d0 d1 d2 d3 d4 d5 d6 d7 d8 d9 d10 d11 d12
      have fm := HFZ.out _ hM.below
      have cw := keepW hM.below cm
      rw [v11, v10]
      go_simp
      exact hK.out _ _ ⟨updV vs 12 (undef), by simp [updV, v11, v10], hM0.last HLD 12 rfl hl _ e.symm hdp⟩
    case fin =>
     rintro l a W6 hall ⟨vs6, rfl, hM0⟩
     obtain ⟨W61, hM, rfl⟩ := hM0.fin (by decide) hall
     have HBW := hide hM.below
     clear e0 e1 e2 e3 e4 e5 e6 e7 e8 e9 e10 e11 e12 d0 d1 d2 d3 d4 d5 d6 d7 d8 d9 d10 d11 d12 HLD
     go_wp2_with fail
     go_roundg (n - (kk + 1))
     case measure => omega
     case rel =>
      refine ⟨kk + 1, by omega, by omega, by go_num, (show Aside _ from bset (step HBD.out HBW.out) (by show w.heap.size ≤ g; omega) _), (show Aside _ from HSS.out _ HBW.out), (show Aside _ from ?_)⟩
      have k0 := keepW HBW.out z0
      have k1 := keepW HBW.out z1
      have k2 := keepW HBW.out z2
      have k3 := keepW HBW.out z3
      have k4 := keepW HBW.out z4
      have hne : g ≠ w.heap.size := by omega
      refine ⟨?_, ?_, ?_, ?_, ?_⟩ <;> rw [World.cell?_setCell_far _ _ _ _ hne] <;> assumption
   ·
    have h1z : (k0 == 1) = false := by simp [h1]
    have HK := hide (fillM_skip (saidN t) kk X (by rw [HST.out, if_neg h1]))
    clear h1 hS5
    go_wp2_with fail
    go_roundg (n - (kk + 1))
    case measure => omega
    case rel => exact ⟨kk + 1, by omega, by omega, by go_num, HB5.out, (show Aside _ from by rw [HK.out]; exact HM5.out), (show Aside _ from ⟨by simp [c5, y0], by simp [c5, y1], by simp [c5, y2], by simp [c5, y3], by simp [c5, y4]⟩)⟩
  ·
   have hltz : ¬ (kk : Int) < (n : Int) := by omega
   have HK := hide (show fillM (saidN t) kk X = leastL t cells n by
    rw [show kk = X.length by rw [HL.out]; omega, fillM_full]; unfold leastL; rw [HX.out])
   go_wp2_with fail
   go_ret
   exact ⟨_, rfl, by rw [← HK.out]; exact HM.out, HB.out⟩
end Go.Proofs.YtpfagdmmhgcmnaaGreatDoor
