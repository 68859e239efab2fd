import Derived.Test.YtgdmcmicfoamlaaGreatDoorMixWc
set_option linter.unusedVariables false
set_option linter.unusedSimpArgs false
set_option maxHeartbeats 4000000
set_option maxRecDepth 100000
namespace Go.Proofs.YtgdmcmicfoamlaaGreatDoor
open Go.RowKit
def Zz (m : Nat) (t : Tbl) (width : Int) : List Int := if Qn t = true ∧ 0 ≤ width ∧ width ≤ 300 then Za6 (Zw t) (Zbd t) width t.gap (Yf t (Zp m t).1 (Zp m t).2.toNat) (Zcb t (Zp m t).1 (Zp m t).2.toNat) else []
theorem Zrc {t : Tbl} (h : Qn t = true) (k : Nat) : Zw t k = 0 ∨ Zw t k = 1 ∨ Zw t k = 2 := by
 unfold Zw Yc
 split
 ·
  rename_i hi
  have hlt : (k : Int).toNat < t.cols.length := by omega
  rw [List.getD_eq_getElem?_getD, List.getElem?_eq_getElem hlt]
  have hc := (Zx h).2.2.2.2.2.1 _ (List.getElem_mem hlt)
  simp only [Option.getD_some]
  unfold Zck at hc
  split at hc
  · exact .inl ‹_›
  split at hc
  · exact .inr (.inl ‹_›)
  split at hc
  · exact .inr (.inr ‹_›)
  cases hc
 exact .inl rfl
theorem Zgy {t : Tbl} (h : Qn t = true) {k : Nat} (hy : Zdt t k) {width : Int} (hw : 0 ≤ width ∧ width ≤ 300) : ∃ n : Nat, (Zp 400 t).2 = n ∧ (1 ≤ n ∧ n ≤ 90) ∧ (Yz 400 t).length = n ∧ (Zdx 400 t).length = n ∧
 Zz 400 t width = Za6 (Zw t) (Zbd t) width t.gap (Yz 400 t) (Zdx 400 t) ∧ (Zz 400 t width).length = n ∧ (∀ x ∈ Zz 400 t width, 0 ≤ x ∧ x ≤ 300) ∧ ∀ x ∈ Yz 400 t, 0 ≤ x ∧ x ≤ 60 := by
 obtain ⟨n, hn, hn1, hcell, hcl⟩ := Za2 h hy 400 Zdn
 obtain ⟨n', hn', _, hcell2, _⟩ := Za2 h hy 400 Zhs
 have hnn : n = n' := by omega
 subst hnn
 have hg := (Zx h).2.2.1
 have e1 : Yz 400 t = Yf t (Zp 400 t).1 n := by unfold Yz; rw [if_pos h, hn]; rfl
 have e2 : Zdx 400 t = Zcb t (Zp 400 t).1 n := by unfold Zdx; rw [if_pos h, hn]; rfl
 have e3 : Zz 400 t width = Za6 (Zw t) (Zbd t) width t.gap (Yz 400 t) (Zdx 400 t) := by unfold Zz; rw [if_pos ⟨h, hw⟩, e1, e2, hn]; rfl
 obtain ⟨l1, l2⟩ := Zf3 h hg.1 (fun x hx => (hcell x hx).1)
 obtain ⟨l3, _⟩ := Zka h hg.1 (fun x hx => (hcell x hx).1) (fun x hx => (hcell2 x hx).1)
 rw [← e1] at l1 l2
 rw [← e2] at l3
 obtain ⟨w1, w2, w3, w4, w5⟩ := Znj (kind := Zw t) (nn := Zbd t) (width := width) (gap := t.gap) (least := Yz 400 t) (wish := Zdx 400 t) (Zrc h)
 refine ⟨n, hn, hn1, l1, l3, e3, by rw [e3, w1, l1], ?_, l2⟩
 rw [e3]
 generalize Za6 (Zw t) (Zbd t) width t.gap (Yz 400 t) (Zdx 400 t) = Z at w1 w2 w3 w4 w5 ⊢
 have h0 : ∀ x ∈ Z, 0 ≤ x := by
  intro x hx
  obtain ⟨j, hj, rfl⟩ := List.getElem_of_mem hx
  have a1 := w2 j
  have a2 := Yn l2 j (by omega)
  have a3 : Z.getD j 0 = Z[j] := by rw [List.getD_eq_getElem?_getD, List.getElem?_eq_getElem hj]; rfl
  omega
 have hup : Z = Yz 400 t ∨ Zq Z ≤ 300 := by
  by_cases hle : width - Zc7 (Yz 400 t) t.gap ≤ 0
  · exact .inl (w4 hle)
  obtain ⟨b1, b2⟩ := w5 (by omega)
  by_cases ha : ∀ j, j < (Yz 400 t).length → Zw t j = 1
  · exact .inl (b1 ha)
  refine .inr ?_
  have : ∃ j, j < (Yz 400 t).length ∧ Zw t j ≠ 1 := Classical.byContradiction fun hno => ha fun j hj => Classical.byContradiction fun hq => hno ⟨j, hj, hq⟩
  have := b2 this
  have hm := Int.mul_nonneg hg.1 (show 0 ≤ max (((Yz 400 t).length : Int) - 1) 0 by omega)
  omega
 intro x hx
 refine ⟨h0 x hx, ?_⟩
 rcases hup with rfl | hs
 · have := l2 x hx; omega
 have := Zby h0 x hx; omega
theorem Zhc (t : Tbl) (A : Option Addr) (c : Nat) (A' : Option Addr) (c' : Nat) (width : Int) (w : World) (hw : Zb9 w) (hc : Rd Zbz w A t.cols) (hr : Rd Zbp w A' t.rows) :
 Calls Tryz.prog 76 #[.agg #[.slice A t.cols.length c, .int .i64 t.head, .int .i64 t.foot, .slice A' t.rows.length c', .int .i64 t.gap], .int .i64 width] w fun e w' => e = .returned (.bool (Qn t && inB width 0 300)) ∧ Below w.heap.size w w' := by
 have hT := fun (W : World) (h : Below w.heap.size w W) => Zj5 t A c A' c' W (hw.below h) (hc.below h) (hr.below h)
 clear hw hc hr
 cases hok : Qn t with
 | false =>
  rw [hok] at hT
  go_enter Tryz.func76, Tryz.ntmps76
  go_wp2_with fail
  refine (hT _ (Zc (Zf _) _)).mono ?_
  rintro e w1 ⟨rfl, hb⟩
  go_wp2_with fail
  go_ret
  exact ⟨rfl, step (Zc (Zf _) _) hb⟩
 | true =>
  rw [hok] at hT
  obtain ⟨b, hb0⟩ : ∃ b, inB width 0 300 = b := ⟨_, rfl⟩
  have hI := fun (W : World) => Zbx width 0 300 W
  rw [hb0] at hI ⊢
  clear hb0
  go_enter Tryz.func76, Tryz.ntmps76
  go_wp2_with fail
  refine (hT _ (Zc (Zf _) _)).mono ?_
  rintro e w1 ⟨rfl, hb⟩
  go_wp2_with (go_at_call 122; refine (hI _).mono ?_; rintro e w' ⟨rfl, rfl⟩)
  go_ret
  exact ⟨by simp, step (Zc (Zf _) _) hb⟩
theorem Zrd (gap : Int) : Zau gap [] = 0 := by
 unfold Zau
 have h0 : max (((([] : List Int).length : Nat) : Int) - 1) 0 = 0 := by decide
 rw [h0, Jz, Int.mul_zero]; rfl
theorem Zpu (i a k : Int) (w : World) (hi : 0 ≤ i ∧ i ≤ 1000000) (ha : 0 ≤ a ∧ a ≤ 1000000) (hk : 0 ≤ k ∧ k ≤ 1000000) :
 Calls Tryz.prog 105 #[.int .i64 i, .int .i64 a, .int .i64 k] w fun e w' => e = .returned (.bool (decide (a ≤ i ∧ i < a + k))) ∧ w' = w := by
 have t1 : IntKind.u64.wrap i = i := by rw [IntKind.wrap_u64]; omega
 have t2 : IntKind.u64.wrap a = a := by rw [IntKind.wrap_u64]; omega
 have t3 : IntKind.u64.wrap k = k := by rw [IntKind.wrap_u64]; omega
 obtain ⟨q, hq⟩ : ∃ q, decide (a ≤ i ∧ i < a + k) = q := ⟨_, rfl⟩
 rw [hq]
 have HQ := Za hq
 clear hq
 by_cases h1 : a ≤ i
 ·
  by_cases h2 : 0 < k
  ·
   have t4 : IntKind.u64.wrap (i - a) = i - a := by rw [IntKind.wrap_u64]; omega
   by_cases h3 : i - a < k
   · have hd := Za (show q = true by rw [← HQ.out]; simp; omega)
     go_enter Tryz.func105, Tryz.ntmps105
     go_wp2_with fail
     go_ret
     exact ⟨by rw [hd.out]; try rfl, rfl⟩
   have hd := Za (show q = false by rw [← HQ.out]; simp; omega)
   go_enter Tryz.func105, Tryz.ntmps105
   go_wp2_with fail
   go_ret
   exact ⟨by rw [hd.out]; try rfl, rfl⟩
  have hd := Za (show q = false by rw [← HQ.out]; simp; omega)
  go_enter Tryz.func105, Tryz.ntmps105
  go_wp2_with fail
  go_ret
  exact ⟨by rw [hd.out]; try rfl, rfl⟩
 have hd := Za (show q = false by rw [← HQ.out]; simp; omega)
 go_enter Tryz.func105, Tryz.ntmps105
 go_wp2_with fail
 go_ret
 exact ⟨by rw [hd.out]; try rfl, rfl⟩
theorem Zq7 {xs : List Int} {j : Nat} {a k : Int} (h : j < xs.length) (ha : 0 ≤ a) (h1 : a ≤ j ∧ (j : Int) < a + k) : Jb (xs.take j) a k ++ [xs.getD j 0] = Jb (xs.take (j + 1)) a k := by
 unfold Jb
 have e : xs.getD j 0 = xs[j] := by rw [List.getD_eq_getElem?_getD, List.getElem?_eq_getElem h]; rfl
 rw [e, List.take_succ_eq_append_getElem h, List.drop_append_of_le_length (by simp; omega), List.take_of_length_le (l := (xs.take j).drop a.toNat) (by simp; omega), List.take_of_length_le (l := (xs.take j).drop a.toNat ++ [xs[j]]) (by simp; omega)]
theorem Zos {xs : List Int} {j : Nat} {a k : Int} (h : j < xs.length) (ha : 0 ≤ a) (hk : 0 ≤ k) (h1 : ¬ (a ≤ j ∧ (j : Int) < a + k)) : Jb (xs.take (j + 1)) a k = Jb (xs.take j) a k := by
 unfold Jb
 rw [List.take_succ_eq_append_getElem h]
 by_cases h2 : a ≤ j
 · rw [List.drop_append_of_le_length (by simp; omega), List.take_append_of_le_length (by simp; omega)]
 rw [List.drop_eq_nil_of_le (by simp; omega), List.drop_eq_nil_of_le (by simp; omega)]
theorem Zlx (A : Option Addr) (c : Nat) (xs : List Int) (a k : Int) (w : World) (hr : Rd Za4 w A xs) (hn : xs.length ≤ 1000) (ha : 0 ≤ a ∧ a ≤ 1000000) (hk : 0 ≤ k ∧ k ≤ 1000000) :
 Calls Tryz.prog 91 #[.slice A xs.length c, .int .i64 a, .int .i64 k] w fun e w' => ∃ v, e = .returned v ∧ Zn w' w.heap.size v (Jb xs a k) ∧ Below w.heap.size w w' := by
 have HR := Za hr
 clear hr
 go_enter Tryz.func91, Tryz.ntmps91
 go_wp2_with fail
 go_loopg [7, 8, 9, 12] xs.length (fun gg s7 s8 s9 s12 wr => ∃ j : Nat, j ≤ xs.length ∧ xs.length - j ≤ gg ∧ s12 = .int .i64 j ∧ Aside (Zn wr w.heap.size s7 (Jb (xs.take j) a k)) ∧ Aside (Below w.heap.size w wr))
 case atStart => exact ⟨0, Nat.zero_le _, by omega, rfl, (show Aside _ from by rw [List.take_zero]; simp only [Jb, List.drop_nil, List.take_nil]; exact Zn.nil _ _), Zf _⟩
 obtain ⟨j, hj, hgg, rfl, HO, HB⟩ := hrel
 by_cases hlt : j < xs.length
 ·
  have hltz : (j : Int) < (xs.length : Int) := by omega
  obtain ⟨b, o, c0, e, hlb, hK, hc⟩ := HR.out.at1 rfl HB.out j hlt
  have q : [c0] = [.int .i64 xs[j]] := hK
  simp only [List.cons.injEq, and_true] at q
  subst q
  subst e
  have e1 : xs[j] = xs.getD j 0 := by rw [List.getD_eq_getElem?_getD, List.getElem?_eq_getElem hlt]; rfl
  rw [e1] at hc
  clear hK e1
  have hA := Zpu j a k wr (by omega) ha hk
  by_cases h1 : a ≤ j ∧ (j : Int) < a + k
  ·
   have HS := Za (Zq7 (xs := xs) hlt ha.1 h1)
   have hd : decide (a ≤ (j : Int) ∧ (j : Int) < a + k) = true := by simp; omega
   rw [hd] at hA
   generalize xs.getD j 0 = y at hc HS
   have hlen : (Jb (xs.take j) a k).length ≤ 1000000 := by unfold Jb; simp; omega
   have HLN := Za hlen
   clear h1 hd hlen
   go_wp2_with (first
    | (go_at_call 105; refine hA.mono ?_; rintro e9 w9 ⟨rfl, hw9⟩; obtain rfl := hw9.symm)
    | (at_builtin; refine Ji rfl (.tmp 21) (.tmp 23) rfl w.heap.size _ (Jb (xs.take j) a k) rfl (HO.out.below (Zc (Zf _) _)) ⟨wr.heap.size, 0, none⟩ 1 y rfl (Zj _ _ _ _ 0 _ rfl) HLN.out (by have := HB.out.size; simp; omega) ?_))
   intro v' w4 H1 H2 H3
   have HB2 : Hid (Below w.heap.size w w4) := (Zc HB.out (.cells #[.int .i64 y] 3)).trans (Qg H2.out (by have := HB.out.size; simp; omega) (fun b hb => (HO.out.lt hb).1))
   rw [HS.out] at H1
   clear H2 H3 HB HO HS HLN hA
   go_wp2_with fail
   go_roundg (xs.length - (j + 1))
   case measure => omega
   case rel => exact ⟨j + 1, by omega, by omega, by go_num, H1.out, HB2.out⟩
  have HS := Za (Zos (xs := xs) hlt ha.1 hk.1 h1)
  have hd : decide (a ≤ (j : Int) ∧ (j : Int) < a + k) = false := by simpa using h1
  rw [hd] at hA
  clear h1 hd
  go_wp2_with (go_at_call 105; refine hA.mono ?_; rintro e9 w9 ⟨rfl, hw9⟩; obtain rfl := hw9.symm)
  go_roundg (xs.length - (j + 1))
  case measure => omega
  case rel => exact ⟨j + 1, by omega, by omega, by go_num, (show Aside _ from by rw [HS.out]; exact HO.out), HB.out⟩
 have hltz : ¬ (j : Int) < (xs.length : Int) := by omega
 have HS := Za (show Jb (xs.take j) a k = Jb xs a k by rw [List.take_of_length_le (by omega)])
 go_wp2_with fail
 go_ret
 exact ⟨_, rfl, by rw [← HS.out]; exact HO.out, HB.out⟩
theorem Zmi (A : Option Addr) (c : Nat) (xs : List Int) (gap : Int) (x : Zl) (w : World) (hr : Rd Za4 w A xs) (hb : ∀ y ∈ xs, 0 ≤ y ∧ y ≤ 1000000) (hn : xs.length ≤ 1000) (hg : 0 ≤ gap ∧ gap ≤ 3) (ha : 0 ≤ x.col ∧ x.col ≤ 1000000) (hk : 0 ≤ x.cols ∧ x.cols ≤ 1000000) :
 Calls Tryz.prog 34 #[.slice A xs.length c, .int .i64 gap, .agg #[.int .i64 x.row, .int .i64 x.col, .int .i64 x.rows, .int .i64 x.cols, .int .i64 x.inn]] w fun e w' => e = .returned (.int .i64 (Zau gap (Jb xs x.col x.cols))) ∧ Below w.heap.size w w' := by
 have hS := fun (W : World) (h : Below w.heap.size w W) => Zlx A c xs x.col x.cols W (hr.below h) hn ha hk
 have hsb : Hid (∀ y ∈ Jb xs x.col x.cols, 0 ≤ y ∧ y ≤ 1000000) := fun y hy => hb y (List.mem_of_mem_drop (List.mem_of_mem_take hy))
 have hsl : (Jb xs x.col x.cols).length ≤ 1000 := by unfold Jb; simp; omega
 generalize Jb xs x.col x.cols = ys at hS hsb hsl ⊢
 clear hr hb
 go_enter Tryz.func34, Tryz.ntmps34
 go_wp2_with fail
 refine (hS _ (Zc (Zf _) _)).mono ?_
 rintro e w1 ⟨v, rfl, hO, hb1⟩
 obtain ⟨A2, c2, rfl⟩ := hO.form
 have hW := Zl8 A2 c2 ys gap w1 (Qq hO) hsb.out hsl hg
 have HB := Za (step (Zc (Zf w) _) hb1)
 clear hO hb1 hS
 go_wp2_with fail
 refine hW.mono ?_
 rintro e w2 ⟨rfl, hb2⟩
 go_wp2_with fail
 go_ret
 exact ⟨rfl, step HB.out hb2⟩
theorem Zie (w : World) (hw : Zb9 w) : Calls Tryz.prog 27 #[] w fun e w' => e = .returned (.bool true) ∧ Below w.heap.size w w' := by
 have hT := Zez ⟨#[97, 98, 32, 99]⟩ w (by decide) hw
 have ht : Zcj ⟨#[97, 98, 32, 99]⟩ = true := by decide
 rw [ht] at hT
 go_enter Tryz.func27, Tryz.ntmps27
 go_wp2_with fail
 refine hT.mono ?_
 rintro e w' ⟨rfl, hb⟩
 go_wp2_with fail
 go_ret
 exact ⟨rfl, hb⟩
theorem Zh.below {W W' : World} {C : Nat} {cs : List Value} (h : Zh W C cs) (hC : C < W.heap.size) (hb : Below W.heap.size W W') : Zh W' C cs := h.keep (hb.block C hC)
def Zng (x : Zl) : Prop := (0 ≤ x.row ∧ x.row ≤ 1000000) ∧ (0 ≤ x.col ∧ x.col ≤ 1000000) ∧ (0 ≤ x.rows ∧ x.rows ≤ 1000000) ∧ (0 ≤ x.cols ∧ x.cols ≤ 1000000)
def gcN : Rep Zl where
 sz := 5
 K := fun _ x cs => cs = gcE x ∧ Zng x
 len := by rintro w x cs ⟨rfl, _⟩; rfl
 below := fun _ h => h
theorem Zvt {w : World} {A : Option Addr} {xs : List Zl} (h : Rd gcR w A xs) (hp : ∀ x ∈ xs, Zng x) : Rd gcN w A xs :=
 Zh1 (d := gcR) (d' := gcN) rfl (fun a ha cs h => ⟨h.1, hp a ha⟩) h
end Go.Proofs.YtgdmcmicfoamlaaGreatDoor
namespace Go.Proofs.YtgdmcmicfoamlaaGreatDoor
theorem Ze8 {c d : List Int} (hl : c.length = d.length) (a : Nat) : ∀ n, a + n ≤ c.length → (∀ j, a ≤ j → j < a + n → c.getD j 0 = d.getD j 0) → Yk c a n = Yk d a n
 | 0, _, _ => by rw [Zen, Zen]
 | n + 1, hn, h => by
  rw [Zct c a n (by omega), Zct d a n (by omega), Ze8 hl a n (by omega) (fun j h1 h2 => h j h1 (by omega)), h (a + n) (by omega) (by omega)]
def Jg (r : Nat) (rows : List Int) (p : Zl × Int) : List Int :=
 if p.1.row + p.1.rows - 1 = (r : Int) then rows.set r (max (rows.getD r 0) (p.2 - Yk rows p.1.row.toNat (r - p.1.row.toNat))) else rows
def Zgv (cells : List (Zl × Int)) (r : Nat) (rows : List Int) : List Int := cells.foldl (Jg r) rows
def Qr (cells : List (Zl × Int)) : Nat → List Int → List Int
 | 0, rows => rows
 | r + 1, rows => Zgv cells r (Qr cells r rows)
def Zlm (n : Nat) (p : Zl × Int) : Prop := 0 ≤ p.1.row ∧ 1 ≤ p.1.rows ∧ p.1.row + p.1.rows ≤ n
theorem Zcd (r : Nat) (rows : List Int) (p : Zl × Int) : (Jg r rows p).length = rows.length := by unfold Jg; split <;> simp
theorem Zf8 {r j : Nat} (rows : List Int) (p : Zl × Int) (h : j ≠ r) : (Jg r rows p).getD j 0 = rows.getD j 0 := by
 unfold Jg
 split
 · simp only [List.getD_eq_getElem?_getD]
   rw [List.getElem?_set_ne (Ne.symm h)]
 rfl
theorem Zoz {r : Nat} {rows : List Int} (p : Zl × Int) (h : r < rows.length) : (Jg r rows p).getD r 0 = if p.1.row + p.1.rows - 1 = (r : Int) then max (rows.getD r 0) (p.2 - Yk rows p.1.row.toNat (r - p.1.row.toNat)) else rows.getD r 0 := by
 unfold Jg
 split
 · simp [List.getD_eq_getElem?_getD, h]
 rfl
theorem Zmc (n r : Nat) (hr : r < n) : ∀ (cells : List (Zl × Int)) (rows : List Int), rows.length = n → (∀ p ∈ cells, Zlm n p) →
 (Zgv cells r rows).length = n ∧ (∀ j, j ≠ r → (Zgv cells r rows).getD j 0 = rows.getD j 0) ∧ rows.getD r 0 ≤ (Zgv cells r rows).getD r 0 ∧
 (∀ p ∈ cells, p.1.row + p.1.rows - 1 = (r : Int) → p.2 ≤ Yk rows p.1.row.toNat (r - p.1.row.toNat) + (Zgv cells r rows).getD r 0) ∧
 ((Zgv cells r rows).getD r 0 = rows.getD r 0 ∨ ∃ p ∈ cells, p.1.row + p.1.rows - 1 = (r : Int) ∧ p.2 = Yk rows p.1.row.toNat (r - p.1.row.toNat) + (Zgv cells r rows).getD r 0)
 | [], rows, hl, _ => ⟨hl, fun _ _ => rfl, Int.le_refl _, (fun p hp => by cases hp), Or.inl rfl⟩
 | q :: cells, rows, hl, hc => by
  obtain ⟨a1, a2, a3, a4, a5⟩ := Zmc n r hr cells (Jg r rows q) ((Zcd _ _ _).trans hl) (fun p hp => hc p (List.mem_cons_of_mem _ hp))
  have hat := Zoz q (show r < rows.length by omega)
  have hwin : ∀ p : Zl × Int, Zlm n p → p.1.row + p.1.rows - 1 = (r : Int) → Yk (Jg r rows q) p.1.row.toNat (r - p.1.row.toNat) = Yk rows p.1.row.toNat (r - p.1.row.toNat) := by
   intro p hp he
   obtain ⟨p1, p2, p3⟩ := hp
   exact Ze8 (Zcd _ _ _) _ _ (by rw [Zcd]; omega) (fun j h1 h2 => Zf8 rows q (by omega))
  show (Zgv cells r (Jg r rows q)).length = n ∧ _
  have hfold : Zgv (q :: cells) r rows = Zgv cells r (Jg r rows q) := rfl
  rw [hfold]
  refine ⟨a1, fun j hj => (a2 j hj).trans (Zf8 rows q hj), ?_, fun p hp he => ?_, ?_⟩
  · have : rows.getD r 0 ≤ (Jg r rows q).getD r 0 := by rw [hat]; split <;> omega
    omega
  ·
   rcases List.mem_cons.1 hp with rfl | hp
   · rw [if_pos he] at hat
     omega
   have := a4 p hp he
   rw [hwin p (hc p (List.mem_cons_of_mem _ hp)) he] at this
   exact this
  rcases a5 with h | ⟨p, hp, he, h⟩
  ·
   rw [h, hat]
   split
   · rename_i he
     rcases Int.le_total (q.2 - Yk rows q.1.row.toNat (r - q.1.row.toNat)) (rows.getD r 0) with h2 | h2
     · exact Or.inl (by omega)
     exact Or.inr ⟨q, List.mem_cons_self .., he, by omega⟩
   exact Or.inl rfl
  rw [hwin p (hc p (List.mem_cons_of_mem _ hp)) he] at h
  exact Or.inr ⟨p, List.mem_cons_of_mem _ hp, he, h⟩
theorem Zhj {n : Nat} {cells : List (Zl × Int)} (hc : ∀ p ∈ cells, Zlm n p) : ∀ m, m ≤ n →
 (Qr cells m (List.replicate n 0)).length = n ∧ (∀ j, m ≤ j → (Qr cells m (List.replicate n 0)).getD j 0 = 0) ∧ (∀ j, 0 ≤ (Qr cells m (List.replicate n 0)).getD j 0) ∧
 (∀ p ∈ cells, p.1.row + p.1.rows ≤ m → p.2 ≤ Yk (Qr cells m (List.replicate n 0)) p.1.row.toNat p.1.rows.toNat) ∧
 (∀ j, j < m → (Qr cells m (List.replicate n 0)).getD j 0 = 0 ∨ ∃ p ∈ cells, p.1.row + p.1.rows - 1 = (j : Int) ∧ p.2 = Yk (Qr cells m (List.replicate n 0)) p.1.row.toNat p.1.rows.toNat)
 | 0, _ => by
  have hz : ∀ j, (List.replicate n (0 : Int)).getD j 0 = 0 := by
   intro j
   rw [List.getD_eq_getElem?_getD]
   by_cases h : j < n
   · simp [h]
   simp [h]
  refine ⟨by simp [Qr], fun j _ => hz j, fun j => by show 0 ≤ (List.replicate n (0 : Int)).getD j 0; rw [hz j]; exact Int.le_refl _, fun p hp h => ?_, fun j hj => by omega⟩
  obtain ⟨p1, p2, p3⟩ := hc p hp
  omega
 | m + 1, hm => by
  obtain ⟨a1, a2, a3, a4, a5⟩ := Zhj hc m (by omega)
  obtain ⟨b1, b2, b3, b4, b5⟩ := Zmc n m (by omega) cells _ a1 hc
  show (Zgv cells m (Qr cells m (List.replicate n 0))).length = n ∧ _
  have hfold : Qr cells (m + 1) (List.replicate n 0) = Zgv cells m (Qr cells m (List.replicate n 0)) := rfl
  rw [hfold]
  generalize Qr cells m (List.replicate n 0) = R at a1 a2 a3 a4 a5 b1 b2 b3 b4 b5 ⊢
  have hkeep : ∀ p : Zl × Int, Zlm n p → p.1.row + p.1.rows ≤ m → Yk (Zgv cells m R) p.1.row.toNat p.1.rows.toNat = Yk R p.1.row.toNat p.1.rows.toNat := by
   intro p hp h
   obtain ⟨p1, p2, p3⟩ := hp
   exact Ze8 (b1.trans a1.symm) _ _ (by omega) (fun j h1 h2 => b2 j (by omega))
  have hlast : ∀ p : Zl × Int, Zlm n p → p.1.row + p.1.rows - 1 = (m : Int) → Yk (Zgv cells m R) p.1.row.toNat p.1.rows.toNat = Yk R p.1.row.toNat (m - p.1.row.toNat) + (Zgv cells m R).getD m 0 := by
   intro p hp h
   obtain ⟨p1, p2, p3⟩ := hp
   have e : p.1.rows.toNat = (m - p.1.row.toNat) + 1 := by omega
   rw [e, Zct _ _ _ (by omega), show p.1.row.toNat + (m - p.1.row.toNat) = m by omega, Ze8 (b1.trans a1.symm) _ _ (by omega) (fun j h1 h2 => b2 j (by omega))]
  refine ⟨b1, fun j hj => by rw [b2 j (by omega)]; exact a2 j (by omega), fun j => ?_, fun p hp h => ?_, fun j hj => ?_⟩
  · by_cases e : j = m
    · subst e; have := a3 j; omega
    rw [b2 j e]; exact a3 j
  · by_cases e : p.1.row + p.1.rows ≤ m
    · rw [hkeep p (hc p hp) e]; exact a4 p hp e
    have e2 : p.1.row + p.1.rows - 1 = (m : Int) := by omega
    rw [hlast p (hc p hp) e2]; exact b4 p hp e2
  by_cases e : j = m
  · subst e
    rcases b5 with h | ⟨p, hp, he, h⟩
    · exact Or.inl (by rw [h]; exact a2 j (Nat.le_refl _))
    exact Or.inr ⟨p, hp, he, by rw [hlast p (hc p hp) he]; exact h⟩
  rcases a5 j (by omega) with h | ⟨p, hp, he, h⟩
  · exact Or.inl (by rw [b2 j e]; exact h)
  exact Or.inr ⟨p, hp, he, by rw [hkeep p (hc p hp) (by omega)]; exact h⟩
end Go.Proofs.YtgdmcmicfoamlaaGreatDoor
