import Derived.Test.YtgdmcmicfoamlaaGreatDoorMixWg
set_option linter.unusedVariables false
set_option linter.unusedSimpArgs false
set_option maxHeartbeats 40000000
set_option maxRecDepth 100000
namespace Go.Proofs.YtgdmcmicfoamlaaGreatDoor
open Go.RowKit
def Zy (t : Tbl) (cells : List Zl) (own : List Int) : List (List ByteArray) := cells.map fun c => Zch (Qb t c) (Zau t.gap (Jb own c.col c.cols))
theorem Zt3 (s : ByteArray) : (Jh s).length ≤ 31 := by
 unfold Jh
 split
 · simp
 split
 ·
  rename_i h1 h2
  have h3 := Zl1 s
  have h4 : s.size ≤ 30 := by
   unfold Zcj Zhx at h2
   rw [Bool.or_eq_true, Bool.and_eq_true, decide_eq_true_iff] at h2
   rcases h2 with h2 | h2
   · exact absurd h2 h1
   have := h2.2; simpa using this
  omega
 simp
theorem Zjd (s : ByteArray) (width : Int) : (Zch s width).length ≤ 31 := by
 have h1 := Zjv width (Jh s) []
 have h2 := Zt3 s
 unfold Zch Zfd
 simp at h1
 omega
def Zcv (cells : List Zl) (lines : List (List ByteArray)) (n m : Nat) : List Int := Qr (cells.zip (lines.map fun l => (l.length : Int))) m (List.replicate n 0)
def Zo2 : List Value := [.slice none 0 0, .int .i64 0, .int .i64 0, .slice none 0 0, .int .i64 0, .int .i64 0, .int .i64 0, .slice none 0 0, .slice none 0 0, .slice none 0 0, .slice none 0 0]
structure Ziq (W : World) (base : Nat) (GL : List Zl) (own : List Int) (lines : List (List ByteArray)) (rows : List Int) (vg vc vl vr : Value) : Prop where
 grid : W.ownsRow base 43 5 vg GL.length (GL.flatMap gcE)
 cols : Zn W base vc own
 lines : Ql W base 44 9 1 Zci vl lines
 rows : Zn W base vr rows
theorem Ziq.below {W W' : World} {base : Nat} {GL : List Zl} {own rows : List Int} {lines : List (List ByteArray)} {vg vc vl vr : Value} (h : Ziq W base GL own lines rows vg vc vl vr) (hb : Below W.heap.size W W') : Ziq W' base GL own lines rows vg vc vl vr :=
 ⟨Qx h.grid hb, h.cols.below hb, h.lines.below hb, h.rows.below hb⟩
theorem Ziq.base {W : World} {base base' : Nat} {GL : List Zl} {own rows : List Int} {lines : List (List ByteArray)} {vg vc vl vr : Value} (h : Ziq W base GL own lines rows vg vc vl vr) (hb : base' ≤ base) : Ziq W base' GL own lines rows vg vc vl vr :=
 ⟨Jw h.grid hb, h.cols.base hb, h.lines.rebase hb, h.rows.base hb⟩
theorem Zqk : Tryz.prog.underlying 31 = some (.slice 44) := by kernel_rfl
theorem Zni : (Tryz.prog.info? 44).map (fun i => (i.zero, i.size, i.bytes)) = some (some (.slice none 0 0), 1, 24) := by kernel_rfl
theorem Zm2 {X : List Int} (hX : ∀ x ∈ X, 0 ≤ x ∧ x ≤ 300) (hl : X.length ≤ 90) {gap : Int} (hg : 0 ≤ gap ∧ gap ≤ 3) (a k : Int) : 0 ≤ Zau gap (Jb X a k) ∧ Zau gap (Jb X a k) ≤ 1000000 := by
 have h1 := Zey 300 (Jb X a k) (fun y hy => hX y (List.mem_of_mem_drop (List.mem_of_mem_take hy)))
 have h2 : (Jb X a k).length ≤ 90 := by unfold Jb; simp; omega
 unfold Zau
 have h3 := Int.mul_nonneg hg.1 (show 0 ≤ max (((Jb X a k).length : Int) - 1) 0 by omega)
 have h4 : gap * max (((Jb X a k).length : Int) - 1) 0 ≤ 3 * max (((Jb X a k).length : Int) - 1) 0 := Int.mul_le_mul_of_nonneg_right hg.2 (by omega)
 omega
def Qf (GL : List Zl) (LN : List (List ByteArray)) : List (Zl × Int) := GL.zip (LN.map fun l => (l.length : Int))
def Zld (xs : List Int) : Prop := ∀ x ∈ xs, 0 ≤ x ∧ x ≤ 31
theorem Zj0 (r : Nat) (rows : List Int) (x : Zl) (n : Int) : Jg r rows (x, n) = if x.row + x.rows - 1 = (r : Int) then rows.set r (max (rows.getD r 0) (n - Yk rows x.row.toNat (r - x.row.toNat))) else rows := rfl
theorem Zqf {r : Nat} {rows : List Int} {p : Zl × Int} (h : Zld rows) (hp : 0 ≤ p.2 ∧ p.2 ≤ 31) : Zld (Jg r rows p) := by
 unfold Jg
 split
 ·
  intro x hx
  rcases List.mem_or_eq_of_mem_set hx with hx | rfl
  · exact h x hx
  have h1 : 0 ≤ Yk rows p.1.row.toNat (r - p.1.row.toNat) := Zaj (fun y hy => (h y (List.mem_of_mem_drop (List.mem_of_mem_take hy))).1)
  have h2 : 0 ≤ rows.getD r 0 ∧ rows.getD r 0 ≤ 31 := by
   rw [List.getD_eq_getElem?_getD]
   cases e : rows[r]? with
   | none => simp
   | some v => exact h v (List.mem_of_getElem? e)
  omega
 exact h
theorem Zhm {r : Nat} : ∀ (L : List (Zl × Int)) (rows : List Int), Zld rows → (∀ p ∈ L, 0 ≤ p.2 ∧ p.2 ≤ 31) → Zld (L.foldl (Jg r) rows)
 | [], _, h, _ => h
 | p :: L, rows, h, hp => Zhm L _ (Zqf h (hp p (List.mem_cons_self ..))) (fun q hq => hp q (List.mem_cons_of_mem _ hq))
theorem Ze6 (L : List (Zl × Int)) (hp : ∀ p ∈ L, 0 ≤ p.2 ∧ p.2 ≤ 31) (n : Nat) : ∀ m, Zld (Qr L m (List.replicate n 0))
 | 0 => fun x hx => by rw [List.eq_of_mem_replicate hx]; exact ⟨Int.le_refl _, by decide⟩
 | m + 1 => Zhm L _ (Ze6 L hp n m) hp
theorem Zdi {r : Nat} : ∀ (L : List (Zl × Int)) (rows : List Int), (L.foldl (Jg r) rows).length = rows.length
 | [], _ => rfl
 | p :: L, rows => by rw [List.foldl_cons, Zdi L, Zcd]
theorem Zbi (L : List (Zl × Int)) (n : Nat) : ∀ m, (Qr L m (List.replicate n 0)).length = n
 | 0 => by simp [Qr]
 | m + 1 => by show (L.foldl (Jg m) _).length = n; rw [Zdi]; exact Zbi L n m
structure YSt (W : World) (base Y : Nat) (hd : List Value) (X : List Int) (LN : List (List ByteArray)) (Z : List Int) (vc vl vr : Value) : Prop where
 low : base ≤ Y
 typ : Jn W Y 92
 blk : Zh W Y (hd ++ [vc, vl, vr])
 cols : Zn W base vc X
 lines : Ql (α := ByteArray) W base 44 9 1 Zci vl LN
 rows : Zn W base vr Z
 ap : Za8 vc vr
theorem YSt.below {W W' : World} {base Y : Nat} {hd : List Value} {X : List Int} {LN : List (List ByteArray)} {Z : List Int} {vc vl vr : Value} (h : YSt W base Y hd X LN Z vc vl vr) (hb : Below W.heap.size W W') : YSt W' base Y hd X LN Z vc vl vr :=
 ⟨h.low, h.typ.keep (hb.block _ h.typ.lt), h.blk.keep (hb.block _ h.typ.lt), h.cols.below hb, h.lines.below hb, h.rows.below hb, h.ap⟩
theorem Zsa {hd : List Value} (hl : hd.length = 8) (a b c x : Value) : (hd ++ [a, b, c]).set 9 x = hd ++ [a, x, c] := by
 rw [List.set_append_right _ _ (by omega), hl]; rfl
theorem YSt.line {W W1 : World} {base Y : Nat} {hd : List Value} {X : List Int} {LN LN' : List (List ByteArray)} {Z : List Int} {vc vl vl' vr : Value} (h : YSt W base Y hd X LN Z vc vl vr) (hl : hd.length = 8) (hg : W.grownBy W1 vl.ownBlock) (hN : Ql (α := ByteArray) W1 base 44 9 1 Zci vl' LN') : YSt (W1.setCell ⟨Y, 9, none⟩ vl') base Y hd X LN' Z vc vl' vr := by
 have ht : ∀ b, vl.ownBlock = some b → Jn W b 44 := fun b hb => h.lines.typed hb
 have hY : W1.heap[Y]? = W.heap[Y]? := hg.block Y h.typ.lt (fun e => h.typ.ne (ht Y e.symm) (by decide) rfl)
 have t1 : Jn W1 Y 92 := h.typ.keep hY
 have g1 := Qt W1 (a := ⟨Y, 9, none⟩) rfl vl'
 have c1 : Zn W1 base vc X := Zf5 (m := 0) h.cols hg ht (by decide)
 have r1 : Zn W1 base vr Z := Zf5 (m := 0) h.rows hg ht (by decide)
 refine ⟨h.low, t1.set _ _, ?_, Zab c1 g1 t1 (by decide), hN.past g1 t1 (by decide) (by decide), Zab r1 g1 t1 (by decide), h.ap⟩
 have := (h.blk.keep hY).set (k := 9) (by simp; omega) vl'
 rw [Zsa hl] at this
 exact this
theorem YSt.row {W : World} {base Y g c n : Nat} {hd : List Value} {X : List Int} {LN : List (List ByteArray)} {Z : List Int} {vc vl : Value} (h : YSt W base Y hd X LN Z vc vl (.slice (some ⟨g, 0, none⟩) n c)) (j : Nat) (y : Int) : YSt (W.setCell ⟨g, j, none⟩ (.int .i64 y)) base Y hd X LN (Z.set j y) vc vl (.slice (some ⟨g, 0, none⟩) n c) := by
 have tg : Jn W g 3 := Jo h.rows rfl
 have gg := Qt W (a := ⟨g, j, none⟩) rfl (.int .i64 y)
 have hY : (W.setCell ⟨g, j, none⟩ (.int .i64 y)).heap[Y]? = W.heap[Y]? := Zak _ _ _ _ (h.typ.ne tg (by decide))
 exact ⟨h.low, h.typ.keep hY, h.blk.keep hY, Jl h.cols fun b hb => Zak _ _ _ _ (fun e => h.ap b hb (by rw [e]; rfl)), h.lines.past gg tg (by decide) (by decide), h.rows.store j y, h.ap⟩
theorem Znv (t : Tbl) (A : Option Addr) (c : Nat) (A' : Option Addr) (c' : Nat) (width : Int) (w : World) (hok : Qn t = true) (hw : Zb9 w) (hc : Rd Zbz w A t.cols) (hr : Rd Zbp w A' t.rows) (hwd : 0 ≤ width ∧ width ≤ 300) {k : Nat} (hy : Zdt t k) :
 Calls Tryz.prog 77 #[.agg #[.slice A t.cols.length c, .int .i64 t.head, .int .i64 t.foot, .slice A' t.rows.length c', .int .i64 t.gap], .int .i64 width] w fun e w' => ∃ (m : Nat) (vg vc vl vr : Value), (Zp 400 t).2 = m ∧ e = .returned (.agg #[.slice A t.cols.length c, .int .i64 t.head, .int .i64 t.foot, .slice A' t.rows.length c', .int .i64 t.gap, .int .i64 t.rows.length, .int .i64 m, vg, vc, vl, vr]) ∧
  Ziq w' w.heap.size (Zp 400 t).1 (Zz 400 t width) (Zy t (Zp 400 t).1 (Zz 400 t width)) (Zcv (Zp 400 t).1 (Zy t (Zp 400 t).1 (Zz 400 t width)) t.rows.length t.rows.length) vg vc vl vr ∧ Below w.heap.size w w' := by
 have hgr : Zao 400 t = ⟨t.rows.length, (Zp 400 t).2, (Zp 400 t).1⟩ := by unfold Zao; rw [if_pos hok]
 obtain ⟨n, hn, hn1, hcell, hcl⟩ := Za2 hok hy 400 Zdn
 obtain ⟨n', hn', _, hcell2, _⟩ := Za2 hok hy 400 Zhs
 have hnn : n = n' := by omega
 subst hnn
 have hle := Zeu 400 t
 have hsm : Hid (∀ x ∈ (Zp 400 t).1, GSm x) := (GIn.rows (m := 400) hok).sm (by omega)
 have hres : Zz 400 t width = Za6 (Zw t) (Zbd t) width t.gap (Yf t (Zp 400 t).1 n) (Zcb t (Zp 400 t).1 n) := by unfold Zz; rw [if_pos ⟨hok, hwd⟩, hn]; rfl
 obtain ⟨n2, hn2, hn3, _, _, _, hwl, hwi, _⟩ := Zgy hok hy hwd
 have hg := fun (W : World) (h : Below w.heap.size w W) => Zkh t A c A' c' W (hw.below h) (hc.below h) (hr.below h)
 rw [hgr] at hg
 have hgrin := Zfv hok 400
 rw [hn] at hg hle
 have hL := fun (W : World) (h : Below w.heap.size w W) GA gc hg => Zrb t A c A' c' t.rows.length n (Zp 400 t).1 GA gc width W hok (hw.below h) (hc.below h) (hr.below h) hg hn1 hcell hcell2 (by omega) (by omega) hwd
 rw [← hres] at hL
 have hnm : n2 = n := by omega
 subst hnm
 have hgap := (Zx hok).2.2.1
 have hrw := (Zx hok).1
 have HCA : Hid (∀ x ∈ (Zp 400 t).1, Zaq t x ∧ Zng x ∧ (1 ≤ x.rows ∧ x.row + x.rows ≤ t.rows.length)) := fun x hx => by
  have h1 := (hcell x hx).2.1
  have h2 := hgrin x hx
  rw [hn] at h2
  have a1 := h2.row
  have a2 := h2.rows
  have a3 := h2.down
  have a4 := h2.col
  have a5 := h2.cols
  have a6 := h2.right
  exact ⟨h1, ⟨⟨by omega, by omega⟩, ⟨by omega, by omega⟩, ⟨by omega, by omega⟩, ⟨by omega, by omega⟩⟩, by omega, a3⟩
 have HWB := Za hwi
 have HWR := Za (show Zb9 w ∧ Rd Zbz w A t.cols ∧ Rd Zbp w A' t.rows from ⟨hw, hc, hr⟩)
 rw [hn]
 clear hgr hok hc hr hw hres hy hcell hcell2 hn' hle hgrin hn hn2 hwi hn3
 generalize Zp 400 t = GG at hg hL hsm HCA hcl ⊢
 obtain ⟨GL, GN⟩ := GG
 dsimp only at hg hL hsm HCA hcl ⊢
 generalize Zz 400 t width = X at hL HWB hwl ⊢
 have HL := Za hL
 have HWL := Za hwl
 clear hL hwl
 have hmk := Zde (P := Tryz.prog) (z := .int .i64 0) (k := 1) (bytes := 8) Yl Yu t.rows.length (by omega) (by omega)
 go_enter Tryz.func77, Tryz.ntmps77
 go_wp2_with fail
 refine (hg _ (Zc (Zc (Zf w) _) _)).mono ?_
 rintro e w2 ⟨GA, gc, rfl, hown, hb2⟩
 dsimp only at hown ⊢
 obtain ⟨c0, f0, s0⟩ := Jc w.heap.size (by first | (simp; omega) | simp [*]) hb2
 obtain ⟨c1, f1, s1⟩ := Jc (w.heap.size + 1) (by first | (simp; omega) | simp [*]) hb2
 have HB2 := Za (step (Zc (Zc (Zf w) (.cells #[.slice A t.cols.length c, .int .i64 t.head, .int .i64 t.foot, .slice A' t.rows.length c', .int .i64 t.gap] 26)) (.cells #[.slice none 0 0, .int .i64 0, .int .i64 0, .slice none 0 0, .int .i64 0, .int .i64 0, .int .i64 0, .slice none 0 0, .slice none 0 0, .slice none 0 0, .slice none 0 0] 92)) hb2)
 have hrd := Zmr hown hsm.out
 obtain ⟨V, hV⟩ : ∃ V, V = w2.alloc (.cells #[.int .i64 t.rows.length, .int .i64 n2, .slice GA GL.length gc] 39) := ⟨_, rfl⟩
 have eV : Below w2.heap.size w2 V := by rw [hV]; exact Zc (Zf _) _
 have hKG : Zh V w2.heap.size [.int .i64 t.rows.length, .int .i64 n2, .slice GA GL.length gc] := by rw [hV]; exact Zh.new w2 _ _
 have hK1 : Zh (w.alloc (.cells #[.slice A t.cols.length c, .int .i64 t.head, .int .i64 t.foot, .slice A' t.rows.length c', .int .i64 t.gap] 26)) w.heap.size [.slice A t.cols.length c, .int .i64 t.head, .int .i64 t.foot, .slice A' t.rows.length c', .int .i64 t.gap] := Zh.new w _ _
 have e1 : (w.alloc (.cells #[.slice A t.cols.length c, .int .i64 t.head, .int .i64 t.foot, .slice A' t.rows.length c', .int .i64 t.gap] 26)).heap.size = w.heap.size + 1 := by simp
 have hK2 := Zh.new (w.alloc (.cells #[.slice A t.cols.length c, .int .i64 t.head, .int .i64 t.foot, .slice A' t.rows.length c', .int .i64 t.gap] 26)) Zo2 92
 rw [e1] at hK2
 have hz2 : w.heap.size + 2 ≤ w2.heap.size := by have := hb2.size; simp at this; omega
 have hKT : Zh V w.heap.size [.slice A t.cols.length c, .int .i64 t.head, .int .i64 t.foot, .slice A' t.rows.length c', .int .i64 t.gap] := ((hK1.keep ((Zc (Zf _) _).block _ (by simp))).keep (hb2.block _ (by simp; omega))).keep (eV.block _ (by omega))
 have hKR : Zh V (w.heap.size + 1) Zo2 := (hK2.keep (hb2.block _ (by simp))).keep (eV.block _ (by omega))
 have hzV : V.heap.size = w2.heap.size + 1 := by rw [hV]; simp
 have HBV : Hid (Below w.heap.size w V) := step HB2.out eV
 have HOW : Hid (V.ownsRow w.heap.size 43 5 (.slice GA GL.length gc) GL.length (GL.flatMap gcE)) := Jw (Qx hown eV) (by have := hz2; simp at *; omega)
 have HGV := Za (hrd.below eV)
 have HKG := Za hKG
 have HKT := Za hKT
 have HKR := Za hKR
 have hT2 : Jn ((w.alloc (.cells #[.slice A t.cols.length c, .int .i64 t.head, .int .i64 t.foot, .slice A' t.rows.length c', .int .i64 t.gap] 26)).alloc (.cells Zo2.toArray 92)) (w.heap.size + 1) 92 := by have := Jn.new (w.alloc (.cells #[.slice A t.cols.length c, .int .i64 t.head, .int .i64 t.foot, .slice A' t.rows.length c', .int .i64 t.gap] 26)) Zo2.toArray 92; rw [e1] at this; exact this
 have HTR : Hid (Jn V (w.heap.size + 1) 92) := (hT2.keep (hb2.block _ (by simp))).keep (eV.block _ (by omega))
 have HV := Za hV
 have HZ2 := Za hz2
 have HZV := Za hzV
 clear hg hV eV hKG hK1 hK2 e1 hT2 hKT hKR hzV hown hrd hb2 hz2 HB2
 go_upto_region 2 with fail
 rw [← HV.out]
 have ed := Zt (Zf V)
 have HBD := Za (Zt HBV.out)
 have z0 : V.drew.cell? ⟨w.heap.size, 0, none⟩ = some (.slice A t.cols.length c) := Zg ed (HKT.out.1 0 _ rfl)
 have z1 : V.drew.cell? ⟨w.heap.size, 1, none⟩ = some (.int .i64 t.head) := Zg ed (HKT.out.1 1 _ rfl)
 have z2 : V.drew.cell? ⟨w.heap.size, 2, none⟩ = some (.int .i64 t.foot) := Zg ed (HKT.out.1 2 _ rfl)
 have z3 : V.drew.cell? ⟨w.heap.size, 3, none⟩ = some (.slice A' t.rows.length c') := Zg ed (HKT.out.1 3 _ rfl)
 have z4 : V.drew.cell? ⟨w.heap.size, 4, none⟩ = some (.int .i64 t.gap) := Zg ed (HKT.out.1 4 _ rfl)
 have g0 : V.drew.cell? ⟨w2.heap.size, 0, none⟩ = some (.int .i64 t.rows.length) := Zg ed (HKG.out.1 0 _ rfl)
 have g1 : V.drew.cell? ⟨w2.heap.size, 1, none⟩ = some (.int .i64 n2) := Zg ed (HKG.out.1 1 _ rfl)
 have g2 : V.drew.cell? ⟨w2.heap.size, 2, none⟩ = some (.slice GA GL.length gc) := Zg ed (HKG.out.1 2 _ rfl)
 have HGD := Za (HGV.out.below ed)
 have HCC := Za (fun (W : World) (h : Below V.drew.heap.size V.drew W) => HL.out W (step HBD.out h) GA gc (HGD.out.below h))
 have hnr : t.rows.length ≤ 1000000 := by omega
 have hmi := fun (W : World) (base : Nat) (h : base ≤ W.heap.size) => (by have := Zb5 W base t.rows.length h hnr; rw [Nat.mul_one] at this; exact this : Zn (W.alloc (.cells (madeCells #[.int .i64 0] t.rows.length) 3)) base (.slice (some ⟨W.heap.size, 0, none⟩) t.rows.length t.rows.length) (List.replicate t.rows.length 0))
 have HMI := Za hmi
 clear ed hmi hnr
 obtain ⟨KF, hKF⟩ : ∃ f : Nat → Value → World → Prop, f = (fun j v W => match j with | 0 => v = .agg #[.slice A t.cols.length c, .int .i64 t.head, .int .i64 t.foot, .slice A' t.rows.length c', .int .i64 t.gap] | 1 => v = .agg #[.int .i64 t.rows.length, .int .i64 n2, .slice GA GL.length gc] | 2 => v = .agg #[.slice A t.cols.length c, .int .i64 t.head, .int .i64 t.foot, .slice A' t.rows.length c', .int .i64 t.gap] | 3 => v = .agg #[.int .i64 t.rows.length, .int .i64 n2, .slice GA GL.length gc] | 4 => v = .int .i64 width | 5 => ∃ Aq5 dq5, v = .slice Aq5 X.length dq5 ∧ Zn W V.drew.heap.size (.slice Aq5 X.length dq5) X | 6 => v = .pointer (some ⟨w2.heap.size, 0, none⟩) | 7 => v = .int .i64 t.rows.length | 8 => ∃ bq8, v = .slice (some ⟨bq8, 0, none⟩) t.rows.length t.rows.length ∧ Zn W V.drew.heap.size (.slice (some ⟨bq8, 0, none⟩) t.rows.length t.rows.length) (List.replicate t.rows.length 0) | 9 => ∃ Ap5 dp5 bp8, v = .agg #[.slice A t.cols.length c, .int .i64 t.head, .int .i64 t.foot, .slice A' t.rows.length c', .int .i64 t.gap, .int .i64 t.rows.length, .int .i64 n2, .slice GA GL.length gc, .slice Ap5 X.length dp5, .slice none 0 0, .slice (some ⟨bp8, 0, none⟩) t.rows.length t.rows.length] ∧ (Zn W V.drew.heap.size (.slice Ap5 X.length dp5) X) ∧ (Zn W V.drew.heap.size (.slice (some ⟨bp8, 0, none⟩) t.rows.length t.rows.length) (List.replicate t.rows.length 0)) ∧ Za8 (.slice Ap5 X.length dp5) (.slice (some ⟨bp8, 0, none⟩) t.rows.length t.rows.length) | 10 => ∃ Yb, v = .pointer (some ⟨Yb, 0, none⟩) ∧ V.drew.heap.size ≤ Yb ∧ Jn W Yb 92 ∧ Zh W Yb Zo2 | _ => True) := ⟨_, rfl⟩
 have KK := Za (kf hKF)
 have HST : Yw KF := by
  rw [hKF]
  intro j v W W9 h hb
  by_cases hjn : j < 12
  ·
   obtain rfl|rfl|rfl|rfl|rfl|rfl|rfl|rfl|rfl|rfl|rfl|rfl : j = 0 ∨ j = 1 ∨ j = 2 ∨ j = 3 ∨ j = 4 ∨ j = 5 ∨ j = 6 ∨ j = 7 ∨ j = 8 ∨ j = 9 ∨ j = 10 ∨ j = 11 := by omega
   · exact h
   · exact h
   · exact h
   · exact h
   · exact h
   · obtain ⟨Aq5, dq5, hv, h⟩ := h
     exact ⟨Aq5, dq5, hv, h.below hb⟩
   · exact h
   · exact h
   · obtain ⟨bq8, hv, h⟩ := h
     exact ⟨bq8, hv, h.below hb⟩
   · obtain ⟨Ap5, dp5, bp8, hv, h⟩ := h
     exact ⟨Ap5, dp5, bp8, hv, ⟨h.1.below hb, h.2.1.below hb, h.2.2⟩⟩
   · obtain ⟨Yb, hv, h⟩ := h
     exact ⟨Yb, hv, ⟨h.1, h.2.1.keep (hb.block _ h.2.1.lt), h.2.2.keep (hb.block _ h.2.1.lt)⟩⟩
   exact trivial
  obtain ⟨k, rfl⟩ : ∃ k, j = k + 12 := ⟨j - 12, by omega⟩
  exact h
 have HLW : Zwb (fun j => decide (j = 5) || decide (j = 8)) KF := by
  intro j v W hmj h
  rw [hKF] at h
  have hj : j = 5 ∨ j = 8 := by simpa using hmj
  rcases hj with rfl|rfl
  · obtain ⟨Aq5, dq5, hv, h⟩ := h
    subst hv
    exact fun b hb => (h.lt hb).2
  obtain ⟨bq8, hv, h⟩ := h
  subst hv
  exact fun b hb => (h.lt hb).2
 clear hKF
 obtain ⟨dep, hdep⟩ : ∃ f : Nat → List Nat, f = (fun j => match j with | 5 => [2, 3, 4] | 7 => [6] | 8 => [7] | 9 => [0, 1, 5, 8] | 11 => [10, 9, 5] | _ => []) := ⟨_, rfl⟩
 have DD := Za hdep
 clear hdep
 have HLD : Yt 12 11 dep := Zbo DD.out (by decide)
 obtain ⟨st, hst⟩ : ∃ f : Nat → Value, f = (fun j => match j with | 0 => undef | 1 => undef | 2 => undef | 3 => undef | 4 => undef | 5 => undef | 6 => undef | 7 => undef | 8 => undef | 9 => undef | 10 => undef | _ => undef) := ⟨_, rfl⟩
 have ST := Za hst
 clear hst
 refine Qe (fun l a W => ∃ vs : Nat → Value, a = ⟨List.toArray ((Ya A t c A' c') :: .int .i64 width :: .pointer (some ⟨w.heap.size, 0, none⟩) :: Zb :: .pointer (some ⟨w.heap.size + 1, 0, none⟩) :: .pointer (some ⟨w2.heap.size, 0, none⟩) :: vs 10 :: Zb :: Zb :: Zb :: Zb :: Zb :: (Ya A t c A' c') :: .agg #[.int .i64 ↑t.rows.length, .int .i64 ↑n2, .slice GA GL.length gc] :: vs 0 :: vs 1 :: vs 2 :: vs 3 :: vs 4 :: vs 5 :: vs 6 :: vs 7 :: vs 8 :: vs 9 :: Zb :: Zb :: Zb :: Zb :: Zb :: Zb :: Zb :: Zb :: Zb :: Zb :: Zb :: Zb :: Zb :: Zb :: Zb :: Zb :: Zb :: Zb :: Zb :: Zb :: Zb :: Zb :: Zb :: Zb :: Zb :: Zb :: Zb :: Zb :: Zb :: Zb :: Zb :: Zb :: Zb :: Zb :: Zb :: Zb :: Zb :: Zb :: Zb :: Zb :: Zb :: Zb :: Zb :: Zb :: Zb :: Zb :: Zb :: Zb :: Zb :: Zb :: Zb :: Zb :: Zb :: Zb :: Zb :: Zb :: Zb :: Zb :: Zb :: Zb :: Zb :: Zb :: Zb :: Zb :: Zb :: Zb :: Zb :: Zb :: Zb :: Zb :: Zb :: Zb :: Zb :: Zb :: Zb :: Zb :: Zb :: Zb :: Zb :: Zb :: Zb :: []), []⟩ ∧ Zav 10 (fun j => decide (j = 5) || decide (j = 8)) KF 12 11 dep (V.drew) (fun W v W2 => ∃ Ap5 dp5 bp8 Yb, v = .pointer (some ⟨Yb, 0, none⟩) ∧ ((Zn W V.drew.heap.size (.slice Ap5 X.length dp5) X) ∧ (Zn W V.drew.heap.size (.slice (some ⟨bp8, 0, none⟩) t.rows.length t.rows.length) (List.replicate t.rows.length 0)) ∧ Za8 (.slice Ap5 X.length dp5) (.slice (some ⟨bp8, 0, none⟩) t.rows.length t.rows.length)) ∧ (V.drew.heap.size ≤ Yb ∧ Jn W Yb 92 ∧ Zh W Yb Zo2) ∧ W2 = Zoo W Yb 0 [.slice A t.cols.length c, .int .i64 t.head, .int .i64 t.foot, .slice A' t.rows.length c', .int .i64 t.gap, .int .i64 t.rows.length, .int .i64 n2, .slice GA GL.length gc, .slice Ap5 X.length dp5, .slice none 0 0, .slice (some ⟨bp8, 0, none⟩) t.rows.length t.rows.length]) st l vs W) (by kernel_rfl) ?top ?start ?step ?fin
 case top => exact Zae (by kernel_rfl)
 case start => exact ⟨st, by rw [ST.out]; first | done | rfl, Zav.start⟩
 case step =>
  rintro l a W i o ho hl hpre hsz ⟨vs, rfl, hM0⟩ K hK
  have hi : i < 12 := (Array.getElem?_eq_some_iff.1 ho).1
  obtain rfl|rfl|rfl|rfl|rfl|rfl|rfl|rfl|rfl|rfl|rfl|rfl := Zwj hi
  all_goals
   simp only [List.getElem?_toArray, List.getElem?_cons_zero, List.getElem?_cons_succ, Option.some.injEq] at ho
   subst ho
   have hMB := hM0.below HLD hi (by decide) hl
   have hMG := hM0.get HLD hi (by decide) hl
   have hV := Zsd KK hMG hpre
   have hPR := Zce hpre
  ·
   have hdp := dpa DD hpre 0 rfl
   have x0 := Zg hMB z0
   have x1 := Zg hMB z1
   have x2 := Zg hMB z2
   have x3 := Zg hMB z3
   have x4 := Zg hMB z4
   go_simp
   exact hK.out _ _ ⟨Zd vs 0 (.agg #[.slice A t.cols.length c, .int .i64 t.head, .int .i64 t.foot, .slice A' t.rows.length c', .int .i64 t.gap]), rfl, hM0.still HLD HST 0 (by decide) (by decide) (by decide) hl _ hdp ((KK.out 0 _ _).2 rfl)⟩
  ·
   have hdp := dpa DD hpre 1 rfl
   have x0 := Zg hMB g0
   have x1 := Zg hMB g1
   have x2 := Zg hMB g2
   go_simp
   exact hK.out _ _ ⟨Zd vs 1 (.agg #[.int .i64 t.rows.length, .int .i64 n2, .slice GA GL.length gc]), rfl, hM0.still HLD HST 1 (by decide) (by decide) (by decide) hl _ hdp ((KK.out 1 _ _).2 rfl)⟩
  ·
   have hdp := dpa DD hpre 2 rfl
   have x0 := Zg hMB z0
   have x1 := Zg hMB z1
   have x2 := Zg hMB z2
   have x3 := Zg hMB z3
   have x4 := Zg hMB z4
   go_simp
   exact hK.out _ _ ⟨Zd vs 2 (.agg #[.slice A t.cols.length c, .int .i64 t.head, .int .i64 t.foot, .slice A' t.rows.length c', .int .i64 t.gap]), rfl, hM0.still HLD HST 2 (by decide) (by decide) (by decide) hl _ hdp ((KK.out 2 _ _).2 rfl)⟩
  ·
   have hdp := dpa DD hpre 3 rfl
   have x0 := Zg hMB g0
   have x1 := Zg hMB g1
   have x2 := Zg hMB g2
   go_simp
   exact hK.out _ _ ⟨Zd vs 3 (.agg #[.int .i64 t.rows.length, .int .i64 n2, .slice GA GL.length gc]), rfl, hM0.still HLD HST 3 (by decide) (by decide) (by decide) hl _ hdp ((KK.out 3 _ _).2 rfl)⟩
  · have hdp := dpa DD hpre 4 rfl
    go_simp
    exact hK.out _ _ ⟨Zd vs 4 (.int .i64 width), rfl, hM0.still HLD HST 4 (by decide) (by decide) (by decide) hl _ hdp ((KK.out 4 _ _).2 rfl)⟩
  ·
   have v2 : vs 2 = .agg #[.slice A t.cols.length c, .int .i64 t.head, .int .i64 t.foot, .slice A' t.rows.length c', .int .i64 t.gap] := hV 2 rfl
   have v3 : vs 3 = .agg #[.int .i64 t.rows.length, .int .i64 n2, .slice GA GL.length gc] := hV 3 rfl
   have v4 : vs 4 = .int .i64 width := hV 4 rfl
   have hdp := dpa DD hpre 5 rfl
   rw [v2, v3, v4]
   go_simp
   refine (HCC.out W hMB).mono ?_
   rintro e5 W5 ⟨v5, rfl, hI5, hb5⟩
   obtain ⟨A5, d5, rfl⟩ := hI5.form
   exact hK.out _ _ ⟨Zd vs 5 (.slice A5 X.length d5), (by simp [Zd, v2, v3, v4]), hM0.nextNew HLD HST HLW 5 (by decide) (by decide) hl _ hdp hb5 ((KK.out 5 _ _).2 ⟨A5, d5, rfl, (hI5.base hMB.size)⟩) (fun b hb => (hI5.lt hb).1)⟩
  · have hdp := dpa DD hpre 6 rfl
    go_simp
    exact hK.out _ _ ⟨Zd vs 6 (.pointer (some ⟨w2.heap.size, 0, none⟩)), rfl, hM0.still HLD HST 6 (by decide) (by decide) (by decide) hl _ hdp ((KK.out 6 _ _).2 rfl)⟩
  ·
   have v6 : vs 6 = .pointer (some ⟨w2.heap.size, 0, none⟩) := hV 6 rfl
   have hdp := dpa DD hpre 7 rfl
   have x0 := Zg hMB g0
   rw [v6]
   go_simp
   exact hK.out _ _ ⟨Zd vs 7 (.int .i64 t.rows.length), (by simp [Zd, v6]), hM0.still HLD HST 7 (by decide) (by decide) (by decide) hl _ hdp ((KK.out 7 _ _).2 rfl)⟩
  · have v7 : vs 7 = .int .i64 t.rows.length := hV 7 rfl
    have hdp := dpa DD hpre 8 rfl
    rw [v7]
    go_simp
    exact hK.out _ _ ⟨Zd vs 8 (.slice (some ⟨W.heap.size, 0, none⟩) t.rows.length t.rows.length), (by simp [Zd, v7]), hM0.nextNew HLD HST HLW 8 (by decide) (by decide) hl _ hdp (Zc (Zf _) _) ((KK.out 8 _ _).2 ⟨_, rfl, (HMI.out W V.drew.heap.size hMB.size)⟩) (fun b hb => Nat.le_of_eq (Option.some.inj hb))⟩
  ·
   have v0 : vs 0 = .agg #[.slice A t.cols.length c, .int .i64 t.head, .int .i64 t.foot, .slice A' t.rows.length c', .int .i64 t.gap] := hV 0 rfl
   have v1 : vs 1 = .agg #[.int .i64 t.rows.length, .int .i64 n2, .slice GA GL.length gc] := hV 1 rfl
   obtain ⟨Aq5, dq5, v5, q5⟩ := hV 5 rfl
   obtain ⟨bq8, v8, q8⟩ := hV 8 rfl
   have hdp := dpa DD hpre 9 rfl
   have hap := hM0.apart 5 8 (by decide) (by decide) (by decide) (by decide) (by decide) (hPR 5 rfl) (hPR 8 rfl)
   rw [v5, v8] at hap
   rw [v0, v1, v5, v8]
   go_simp
   exact hK.out _ _ ⟨Zd vs 9 (.agg #[.slice A t.cols.length c, .int .i64 t.head, .int .i64 t.foot, .slice A' t.rows.length c', .int .i64 t.gap, .int .i64 t.rows.length, .int .i64 n2, .slice GA GL.length gc, .slice Aq5 X.length dq5, .slice none 0 0, .slice (some ⟨bq8, 0, none⟩) t.rows.length t.rows.length]), (by simp [Zd, v0, v1, v5, v8]), hM0.still HLD HST 9 (by decide) (by decide) (by decide) hl _ hdp ((KK.out 9 _ _).2 ⟨Aq5, dq5, bq8, rfl, ⟨q5, q8, hap⟩⟩)⟩
  · have hdp := dpa DD hpre 10 rfl
    go_simp
    exact hK.out _ _ ⟨Zd vs 10 (.pointer (some ⟨W.heap.size, 0, none⟩)), (by simp [Zd]), hM0.next HLD HST 10 (by decide) (by decide) (by decide) hl _ hdp (Zc (Zf _) _) ((KK.out 10 _ _).2 ⟨_, rfl, ⟨hMB.size, Jn.new W _ _, Zh.new W Zo2 _⟩⟩)⟩
  obtain ⟨Yb, v10, q10⟩ := hV 10 rfl
  obtain ⟨Ap5, dp5, bp8, v9, q9⟩ := hV 9 rfl
  obtain ⟨Aq5, dq5, v5, q5⟩ := hV 5 rfl
  have hdp := dpa DD hpre 11 rfl
  have hno : ∀ j, 11 < j → l.getD j false = true → 11 ∈ dep j := by
   intro j hj hj2
   have hjn : j < 12 := by have := Zap hj2; rw [hM0.mid.size] at this; exact this
   omega
  rw [v10, v9, v5]
  have s0 := q10.2.2.1 0 _ rfl
  have s1 := q10.2.2.1 1 _ rfl
  have s2 := q10.2.2.1 2 _ rfl
  have s3 := q10.2.2.1 3 _ rfl
  have s4 := q10.2.2.1 4 _ rfl
  have s5 := q10.2.2.1 5 _ rfl
  have s6 := q10.2.2.1 6 _ rfl
  have s7 := q10.2.2.1 7 _ rfl
  have s8 := q10.2.2.1 8 _ rfl
  have s9 := q10.2.2.1 9 _ rfl
  have s10 := q10.2.2.1 10 _ rfl
  have fz := q10.2.2.2
  go_simp
  exact hK.out _ _ ⟨Zd vs 11 (.pointer (some ⟨Yb, 0, none⟩)), by simp [Zd, v10, v9, v5], hM0.last HLD (by decide) hl hno _ hdp ⟨Ap5, dp5, bp8, Yb, rfl, q9, q10, rfl⟩ (fun _ => v10.symm)⟩
 rintro l a W2 hall ⟨vs2, rfl, hM0⟩
 obtain ⟨W21, hMB, hMG, hMR, hMA⟩ := hM0.mid.fin (by decide) hall
 have HBW := Za hMB
 obtain ⟨Ax, dx, g8, Y, hv11, ⟨p1, p2, p3⟩, ⟨p4, p5, p6⟩, hW2⟩ := hMR
 have v10 := (hM0.tied (by decide) (by decide) hall).symm.trans hv11
 rw [v10]
 obtain ⟨HD, hHD⟩ : ∃ L : List Value, L = [.slice A t.cols.length c, .int .i64 t.head, .int .i64 t.foot, .slice A' t.rows.length c', .int .i64 t.gap, .int .i64 t.rows.length, .int .i64 n2, .slice GA GL.length gc] := ⟨_, rfl⟩
 have HY2 : Hid (YSt W2 V.drew.heap.size Y HD X [] (List.replicate t.rows.length 0) (.slice Ax X.length dx) (.slice none 0 0) (.slice (some ⟨g8, 0, none⟩) t.rows.length t.rows.length)) := by
  rw [hW2]
  have hg := Zh6 [.slice A t.cols.length c, .int .i64 t.head, .int .i64 t.foot, .slice A' t.rows.length c', .int .i64 t.gap, .int .i64 t.rows.length, .int .i64 n2, .slice GA GL.length gc, .slice Ax X.length dx, .slice none 0 0, .slice (some ⟨g8, 0, none⟩) t.rows.length t.rows.length] W21 Y 0
  refine ⟨p4, Zjk _ _ _ _ p5, ?_, Zab p1 hg p5 (by decide), Ql.nil, Zab p2 hg p5 (by decide), p3⟩
  rw [hHD]
  exact Zj8 _ _ _ _ _ p6 (Nat.le_refl 11)
 have HB2 : Hid (Below V.drew.heap.size V.drew W2) := by rw [hW2]; exact Zgo _ _ _ _ _ HBW.out p4
 have HHD := Za hHD
 clear KK DD ST HLD HST hMG HLW v10 hv11 hMB hMA hall hM0 st p1 p2 p3 p4 p5 p6 hW2 HBW z0 z1 z2 z3 z4 g0 g1 g2 HMI HCC hHD hmk
 have HXD : Hid (Below w.heap.size w W2) := step HBD.out HB2.out
 have k2 : W2.cell? ⟨w2.heap.size, 2, none⟩ = some (.slice GA GL.length gc) := Zg HB2.out (Zg (Zt (Zf V)) (HKG.out.1 2 _ rfl))
 go_wp2_with fail
 go_loopg [8, 27] GL.length (fun gg s8 s27 wr => ∃ i : Nat, i ≤ GL.length ∧ GL.length - i ≤ gg ∧ s27 = .int .i64 i ∧ Aside (∃ vl, YSt wr V.drew.heap.size Y HD X (Zy t (GL.take i) X) (List.replicate t.rows.length 0) (.slice Ax X.length dx) vl (.slice (some ⟨g8, 0, none⟩) t.rows.length t.rows.length)) ∧ Aside (Below V.drew.heap.size V.drew wr))
 case atStart => exact ⟨0, Nat.zero_le _, by omega, rfl, (show Aside _ from ⟨_, HY2.out⟩), HB2.out⟩
 obtain ⟨i, hi, hgg, rfl, HYL, HBR⟩ := hrel
 obtain ⟨vl, hyl⟩ := HYL.out
 by_cases hlt : i < GL.length
 ·
  have hltz : (i : Int) < (GL.length : Int) := by omega
  obtain ⟨bG, oG, c0', c1', c2', c3', c4', rfl, hbg, hKx, k0, k1, k2, k3, k4⟩ := HGV.out.at5 rfl (Zt (Zf V)) i hlt
  have ex : [c0', c1', c2', c3', c4'] = gcE GL[i] := hKx.1
  obtain ⟨xg, hxg⟩ : ∃ x, GL[i] = x := ⟨_, rfl⟩
  rw [hxg] at ex
  simp only [gcE, List.cons.injEq, and_true] at ex
  obtain ⟨rfl, rfl, rfl, rfl, rfl⟩ := ex
  have k0 := Zg HBR.out k0
  have k1 := Zg HBR.out k1
  have k2 := Zg HBR.out k2
  have k3 := Zg HBR.out k3
  have k4 := Zg HBR.out k4
  obtain ⟨hCA, hPC, _⟩ := HCA.out xg (by rw [← hxg]; exact List.getElem_mem hlt)
  have HLT : Hid (Zy t (GL.take (i + 1)) X = Zy t (GL.take i) X ++ [Zch (Qb t xg) (Zau t.gap (Jb X xg.col xg.cols))]) := by
   show _ = _
   unfold Zy
   rw [List.take_succ_eq_append_getElem hlt, List.map_append, hxg]; rfl
  have hYlt : Y < wr.heap.size := hyl.typ.lt
  have HYL2 := Za hyl
  clear hKx hyl HYL hxg
  go_upto_region 6 with fail
  obtain ⟨V6, hV6⟩ : ∃ W, W = wr.alloc (.cells #[.int .i64 xg.row, .int .i64 xg.col, .int .i64 xg.rows, .int .i64 xg.cols, .int .i64 xg.inn] 43) := ⟨_, rfl⟩
  rw [← hV6]
  have hK8 : Zh V6 wr.heap.size [.int .i64 xg.row, .int .i64 xg.col, .int .i64 xg.rows, .int .i64 xg.cols, .int .i64 xg.inn] := by rw [hV6]; exact Zh.new wr _ _
  have hb6 : Below wr.heap.size wr V6 := by rw [hV6]; exact Zc (Zf _) _
  have ed : Below wr.heap.size wr V6.drew := Zt hb6
  have HBD6 := Za (step HBR.out ed)
  have HXD6 := Za (step HBD.out HBD6.out)
  have HYD := Za (HYL2.out.below ed)
  have x0 := Zg (Zt (Zf V6)) (hK8.1 0 _ rfl)
  have x1 := Zg (Zt (Zf V6)) (hK8.1 1 _ rfl)
  have x2 := Zg (Zt (Zf V6)) (hK8.1 2 _ rfl)
  have x3 := Zg (Zt (Zf V6)) (hK8.1 3 _ rfl)
  have x4 := Zg (Zt (Zf V6)) (hK8.1 4 _ rfl)
  obtain ⟨rb, ro, bx, ox, mx, cx, r, tq, hAe, er, eq2, hrl, hql, fa, fb, htx⟩ := Zhz (HWR.out.2.2.below HXD6.out) hCA
  have hXT : Below V.heap.size V V6.drew := step (Zt (Zf V)) HBD6.out
  have y3 : V6.drew.cell? ⟨w.heap.size, 3, none⟩ = some (.slice (some ⟨rb, ro, none⟩) t.rows.length c') := by rw [← hAe]; exact Zg hXT (HKT.out.1 3 _ rfl)
  have y4 : V6.drew.cell? ⟨w.heap.size, 4, none⟩ = some (.int .i64 t.gap) := Zg hXT (HKT.out.1 4 _ rfl)
  have hl8 : HD.length = 8 := by rw [HHD.out]; rfl
  have yl8 : V6.drew.cell? ⟨Y, 8, none⟩ = some (.slice Ax X.length dx) := HYD.out.blk.1 8 _ (by rw [List.getElem?_append_right (by omega), hl8]; rfl)
  have yl9 : V6.drew.cell? ⟨Y, 9, none⟩ = some vl := HYD.out.blk.1 9 _ (by rw [List.getElem?_append_right (by omega), hl8]; rfl)
  obtain ⟨wc, hwc⟩ : ∃ wc, Zau t.gap (Jb X xg.col xg.cols) = wc := ⟨_, rfl⟩
  have hwb := Zm2 HWB.out (by have := HWL.out; omega) hgap xg.col xg.cols
  rw [hwc] at hwb
  have HWC : Hid (∀ W, Below V6.drew.heap.size V6.drew W → Calls Tryz.prog 34 #[.slice Ax X.length dx, .int .i64 t.gap, .agg #[.int .i64 xg.row, .int .i64 xg.col, .int .i64 xg.rows, .int .i64 xg.cols, .int .i64 xg.inn]] W fun e w' => e = .returned (.int .i64 wc) ∧ Below W.heap.size W w') := fun W h => by
   rw [← hwc]
   exact Zmi Ax dx X t.gap xg W (Qq (HYD.out.cols.below h)) (fun y hy => by have := HWB.out y hy; omega) (by have := HWL.out; omega) hgap hPC.2.1 hPC.2.2.2
  obtain ⟨tx, htxe⟩ : ∃ tx, Qb t xg = tx := ⟨_, rfl⟩
  have HLT2 := HLT.out
  rw [htxe, hwc] at HLT2
  rw [htxe] at fb htx
  obtain ⟨LS, hLS⟩ : ∃ LS, Zch tx wc = LS := ⟨_, rfl⟩
  have HTL : Hid (∀ W, Below V6.drew.heap.size V6.drew W → Calls Tryz.prog 131 #[.string tx, .int .i64 wc] W fun e w' => ∃ v, e = .returned v ∧ Yx w' W.heap.size v LS ∧ Below W.heap.size W w') := fun W h => by
   rw [← hLS]
   exact Zlh tx wc W htx (HWR.out.1.below (step HXD6.out h)) hwb
  rw [hLS] at HLT2
  have HLT3 := Za HLT2
  obtain ⟨LNi, hLNi⟩ : ∃ L, Zy t (GL.take i) X = L := ⟨_, rfl⟩
  rw [hLNi] at HYD HLT3
  have hnl : LNi.length ≤ 1000000 := by rw [← hLNi]; unfold Zy; rw [List.length_map, List.length_take]; omega
  have hrz : (r : Int) < (t.rows.length : Int) := by omega
  have hqz : (tq : Int) < (mx : Int) := by omega
  have HER := Za er
  have HEQ := Za eq2
  have HNL := Za hnl
  have HL8 := Za hl8
  have HZS : Hid (V.drew.heap.size ≤ V6.drew.heap.size) := HBD6.out.size
  clear hV6 hK8 hb6 ed er eq2 hAe HLT HLT2 hLS htxe hwc hwb htx hnl hl8 hLNi hXT hCA hPC HYL2 hrl hql
  obtain ⟨KF, hKF⟩ : ∃ f : Nat → Value → World → Prop, f = (fun j v W => match j with | 0 => v = .pointer (some ⟨Y, 9, none⟩) | 1 => v = vl | 2 => v = .pointer (some ⟨w.heap.size, 3, none⟩) | 3 => v = .slice (some ⟨rb, ro, none⟩) t.rows.length c' | 4 => v = .pointer (some ⟨wr.heap.size, 0, none⟩) | 5 => v = .int .i64 xg.row | 6 => v = .pointer (some ⟨rb, ro + r * 2, none⟩) | 7 => v = .pointer (some ⟨rb, ro + r * 2, none⟩) | 8 => v = .slice (some ⟨bx, ox, none⟩) mx cx | 9 => v = .pointer (some ⟨wr.heap.size, 4, none⟩) | 10 => v = .int .i64 xg.inn | 11 => v = .pointer (some ⟨bx, ox + tq * 11, none⟩) | 12 => v = .pointer (some ⟨bx, ox + tq * 11, none⟩) | 13 => v = .string tx | 14 => v = .pointer (some ⟨Y, 8, none⟩) | 15 => v = .slice Ax X.length dx | 16 => v = .pointer (some ⟨w.heap.size, 4, none⟩) | 17 => v = .int .i64 t.gap | 18 => v = .agg #[.int .i64 xg.row, .int .i64 xg.col, .int .i64 xg.rows, .int .i64 xg.cols, .int .i64 xg.inn] | 19 => v = .int .i64 wc | 20 => ∃ As ds, v = .slice As LS.length ds ∧ Yx W V6.drew.heap.size (.slice As LS.length ds) LS | 21 => ∃ Ab db B21, v = .slice (some ⟨B21, 0, none⟩) 1 1 ∧ W.cell? ⟨B21, 0, none⟩ = some (.slice Ab LS.length db) ∧ Yx W V6.drew.heap.size (.slice Ab LS.length db) LS | _ => True) := ⟨_, rfl⟩
  have KK := Za (kf hKF)
  have HST : Yw KF := by
   rw [hKF]
   intro j v W W9 h hb
   by_cases hjn : j < 22
   ·
    obtain rfl|rfl|rfl|rfl|rfl|rfl|rfl|rfl|rfl|rfl|rfl|rfl|rfl|rfl|rfl|rfl|rfl|rfl|rfl|rfl|rfl|rfl : j = 0 ∨ j = 1 ∨ j = 2 ∨ j = 3 ∨ j = 4 ∨ j = 5 ∨ j = 6 ∨ j = 7 ∨ j = 8 ∨ j = 9 ∨ j = 10 ∨ j = 11 ∨ j = 12 ∨ j = 13 ∨ j = 14 ∨ j = 15 ∨ j = 16 ∨ j = 17 ∨ j = 18 ∨ j = 19 ∨ j = 20 ∨ j = 21 := by omega
    · exact h
    · exact h
    · exact h
    · exact h
    · exact h
    · exact h
    · exact h
    · exact h
    · exact h
    · exact h
    · exact h
    · exact h
    · exact h
    · exact h
    · exact h
    · exact h
    · exact h
    · exact h
    · exact h
    · exact h
    · obtain ⟨As, ds, hv, h⟩ := h
      exact ⟨As, ds, hv, h.below hb⟩
    obtain ⟨Ab, db, B21, hv, h⟩ := h
    exact ⟨Ab, db, B21, hv, ⟨Zg hb h.1, h.2.below hb⟩⟩
   obtain ⟨k, rfl⟩ : ∃ k, j = k + 22 := ⟨j - 22, by omega⟩
   exact h
  clear hKF
  obtain ⟨dep, hdep⟩ : ∃ f : Nat → List Nat, f = (fun j => match j with | 1 => [0] | 3 => [2] | 5 => [4] | 6 => [3, 5] | 7 => [6] | 8 => [7] | 10 => [9] | 11 => [8, 10] | 12 => [11] | 13 => [12] | 15 => [14] | 17 => [16] | 19 => [15, 17, 18] | 20 => [13, 19] | 21 => [20] | 22 => [1, 21, 20] | 24 => [23, 22] | _ => []) := ⟨_, rfl⟩
  have DD := Za hdep
  clear hdep
  have HLD : Yt 25 22 dep := Zbo DD.out (by decide)
  have HLQ : Zi4 25 dep := by
   intro L hc k24
   have k23 : L 23 := hc 24 k24 23 (by rw [DD.out]; simp)
   have k22 : L 22 := hc 24 k24 22 (by rw [DD.out]; simp)
   have k21 : L 21 := hc 22 k22 21 (by rw [DD.out]; simp)
   have k20 : L 20 := hc 22 k22 20 (by rw [DD.out]; simp)
   have k19 : L 19 := hc 20 k20 19 (by rw [DD.out]; simp)
   have k18 : L 18 := hc 19 k19 18 (by rw [DD.out]; simp)
   have k17 : L 17 := hc 19 k19 17 (by rw [DD.out]; simp)
   have k16 : L 16 := hc 17 k17 16 (by rw [DD.out]; simp)
   have k15 : L 15 := hc 19 k19 15 (by rw [DD.out]; simp)
   have k14 : L 14 := hc 15 k15 14 (by rw [DD.out]; simp)
   have k13 : L 13 := hc 20 k20 13 (by rw [DD.out]; simp)
   have k12 : L 12 := hc 13 k13 12 (by rw [DD.out]; simp)
   have k11 : L 11 := hc 12 k12 11 (by rw [DD.out]; simp)
   have k10 : L 10 := hc 11 k11 10 (by rw [DD.out]; simp)
   have k9 : L 9 := hc 10 k10 9 (by rw [DD.out]; simp)
   have k8 : L 8 := hc 11 k11 8 (by rw [DD.out]; simp)
   have k7 : L 7 := hc 8 k8 7 (by rw [DD.out]; simp)
   have k6 : L 6 := hc 7 k7 6 (by rw [DD.out]; simp)
   have k5 : L 5 := hc 6 k6 5 (by rw [DD.out]; simp)
   have k4 : L 4 := hc 5 k5 4 (by rw [DD.out]; simp)
   have k3 : L 3 := hc 6 k6 3 (by rw [DD.out]; simp)
   have k2 : L 2 := hc 3 k3 2 (by rw [DD.out]; simp)
   have k1 : L 1 := hc 22 k22 1 (by rw [DD.out]; simp)
   have k0 : L 0 := hc 1 k1 0 (by rw [DD.out]; simp)
   intro j hj
   obtain rfl|rfl|rfl|rfl|rfl|rfl|rfl|rfl|rfl|rfl|rfl|rfl|rfl|rfl|rfl|rfl|rfl|rfl|rfl|rfl|rfl|rfl|rfl|rfl|rfl : j = 0 ∨ j = 1 ∨ j = 2 ∨ j = 3 ∨ j = 4 ∨ j = 5 ∨ j = 6 ∨ j = 7 ∨ j = 8 ∨ j = 9 ∨ j = 10 ∨ j = 11 ∨ j = 12 ∨ j = 13 ∨ j = 14 ∨ j = 15 ∨ j = 16 ∨ j = 17 ∨ j = 18 ∨ j = 19 ∨ j = 20 ∨ j = 21 ∨ j = 22 ∨ j = 23 ∨ j = 24 := by omega
   all_goals assumption
  obtain ⟨pv, hpv⟩ : ∃ f : Nat → Value, f = (fun j => match j with | 23 => .pointer (some ⟨Y, 9, none⟩) | _ => undef) := ⟨_, rfl⟩
  have p23 : pv 23 = .pointer (some ⟨Y, 9, none⟩) := congrFun hpv 23
  clear hpv
  refine Qe (fun l a W => ∃ vs : Nat → Value, a = ⟨List.toArray ((Ya A t c A' c') :: .int .i64 width :: .pointer (some ⟨w.heap.size, 0, none⟩) :: Zb :: .pointer (some ⟨w.heap.size + 1, 0, none⟩) :: .pointer (some ⟨w2.heap.size, 0, none⟩) :: .pointer (some ⟨Y, 0, none⟩) :: Zb :: .pointer (some ⟨wr.heap.size, 0, none⟩) :: Zb :: Zb :: Zb :: (Ya A t c A' c') :: .agg #[.int .i64 ↑t.rows.length, .int .i64 ↑n2, .slice (some ⟨bG, oG, none⟩) GL.length gc] :: vs2 0 :: vs2 1 :: vs2 2 :: vs2 3 :: vs2 4 :: vs2 5 :: vs2 6 :: vs2 7 :: vs2 8 :: vs2 9 :: .pointer (some ⟨w2.heap.size, 2, none⟩) :: .slice (some ⟨bG, oG, none⟩) GL.length gc :: .int .i64 ↑GL.length :: .int .i64 ↑i :: .bool true :: .pointer (some ⟨bG, oG + i * 5, none⟩) :: .agg #[.int .i64 xg.row, .int .i64 xg.col, .int .i64 xg.rows, .int .i64 xg.cols, .int .i64 xg.inn] :: vs 0 :: vs 1 :: vs 2 :: vs 3 :: vs 4 :: vs 5 :: vs 6 :: vs 7 :: vs 8 :: vs 9 :: vs 10 :: vs 11 :: vs 12 :: vs 13 :: vs 14 :: vs 15 :: vs 16 :: vs 17 :: vs 18 :: vs 19 :: vs 20 :: vs 21 :: vs 22 :: vs 23 :: u55 :: Zb :: Zb :: Zb :: Zb :: Zb :: Zb :: Zb :: Zb :: Zb :: Zb :: Zb :: Zb :: Zb :: Zb :: Zb :: Zb :: Zb :: Zb :: Zb :: Zb :: Zb :: Zb :: Zb :: Zb :: Zb :: Zb :: Zb :: Zb :: Zb :: Zb :: Zb :: Zb :: Zb :: Zb :: Zb :: Zb :: Zb :: Zb :: Zb :: Zb :: Zb :: Zb :: Zb :: Zb :: Zb :: Zb :: Zb :: Zb :: Zb :: []), []⟩ ∧ Ym KF 25 22 dep pv (V6.drew) (fun W v W2 => Ql (α := ByteArray) W2 V.drew.heap.size 44 9 1 Zci v (LNi ++ [LS]) ∧ W.grownBy W2 vl.ownBlock) (fun W v W2 => W2 = W.setCell ⟨Y, 9, none⟩ v) l vs W) (by kernel_rfl) ?top ?start ?step ?fin
  case top => exact Zae (by kernel_rfl)
  case start => exact ⟨(fun j => match j with | 0 => u31 | 1 => u32 | 2 => u33 | 3 => u34 | 4 => u35 | 5 => u36 | 6 => u37 | 7 => u38 | 8 => u39 | 9 => u40 | 10 => u41 | 11 => u42 | 12 => u43 | 13 => u44 | 14 => u45 | 15 => u46 | 16 => u47 | 17 => u48 | 18 => u49 | 19 => u50 | 20 => u51 | 21 => u52 | 22 => u53 | 23 => u54 | _ => undef), rfl, Ym.start _⟩
  case step =>
   rintro l a W i o ho hl hpre hsz ⟨vs, rfl, hM0⟩ K hK
   have hi : i < 25 := (Array.getElem?_eq_some_iff.1 ho).1
   obtain rfl|rfl|rfl|rfl|rfl|rfl|rfl|rfl|rfl|rfl|rfl|rfl|rfl|rfl|rfl|rfl|rfl|rfl|rfl|rfl|rfl|rfl|rfl|rfl|rfl := Zwa hi
   all_goals
    simp only [List.getElem?_toArray, List.getElem?_cons_zero, List.getElem?_cons_succ, Option.some.injEq] at ho
    subst ho
    have hPR := Zce hpre
   · have hMB := hM0.below HLD hi (by decide) hl
     have hMG := hM0.get HLD hi (by decide) hl
     have hdp := dpa DD hpre 0 rfl
     go_simp
     exact hK.out _ _ ⟨Zd vs 0 (.pointer (some ⟨Y, 9, none⟩)), rfl, hM0.read HLD HLQ HST 0 (by decide) (by decide) (by decide) hl _ hdp ((KK.out 0 _ _).2 rfl)⟩
   ·
    have hMB := hM0.below HLD hi (by decide) hl
    have hMG := hM0.get HLD hi (by decide) hl
    have v0 : vs 0 = .pointer (some ⟨Y, 9, none⟩) := (KK.out 0 _ _).1 (hMG 0 (by decide) (hPR 0 rfl))
    have hdp := dpa DD hpre 1 rfl
    have x0 := Zg hMB yl9
    rw [v0]
    go_simp
    exact hK.out _ _ ⟨Zd vs 1 (vl), (by simp [Zd, v0]), hM0.read HLD HLQ HST 1 (by decide) (by decide) (by decide) hl _ hdp ((KK.out 1 _ _).2 rfl)⟩
   · have hMB := hM0.below HLD hi (by decide) hl
     have hMG := hM0.get HLD hi (by decide) hl
     have hdp := dpa DD hpre 2 rfl
     go_simp
     exact hK.out _ _ ⟨Zd vs 2 (.pointer (some ⟨w.heap.size, 3, none⟩)), rfl, hM0.read HLD HLQ HST 2 (by decide) (by decide) (by decide) hl _ hdp ((KK.out 2 _ _).2 rfl)⟩
   ·
    have hMB := hM0.below HLD hi (by decide) hl
    have hMG := hM0.get HLD hi (by decide) hl
    have v2 : vs 2 = .pointer (some ⟨w.heap.size, 3, none⟩) := (KK.out 2 _ _).1 (hMG 2 (by decide) (hPR 2 rfl))
    have hdp := dpa DD hpre 3 rfl
    have x0 := Zg hMB y3
    rw [v2]
    go_simp
    exact hK.out _ _ ⟨Zd vs 3 (.slice (some ⟨rb, ro, none⟩) t.rows.length c'), (by simp [Zd, v2]), hM0.read HLD HLQ HST 3 (by decide) (by decide) (by decide) hl _ hdp ((KK.out 3 _ _).2 rfl)⟩
   · have hMB := hM0.below HLD hi (by decide) hl
     have hMG := hM0.get HLD hi (by decide) hl
     have hdp := dpa DD hpre 4 rfl
     go_simp
     exact hK.out _ _ ⟨Zd vs 4 (.pointer (some ⟨wr.heap.size, 0, none⟩)), rfl, hM0.read HLD HLQ HST 4 (by decide) (by decide) (by decide) hl _ hdp ((KK.out 4 _ _).2 rfl)⟩
   ·
    have hMB := hM0.below HLD hi (by decide) hl
    have hMG := hM0.get HLD hi (by decide) hl
    have v4 : vs 4 = .pointer (some ⟨wr.heap.size, 0, none⟩) := (KK.out 4 _ _).1 (hMG 4 (by decide) (hPR 4 rfl))
    have hdp := dpa DD hpre 5 rfl
    have x0 := Zg hMB x0
    rw [v4]
    go_simp
    exact hK.out _ _ ⟨Zd vs 5 (.int .i64 xg.row), (by simp [Zd, v4]), hM0.read HLD HLQ HST 5 (by decide) (by decide) (by decide) hl _ hdp ((KK.out 5 _ _).2 rfl)⟩
   ·
    have hMB := hM0.below HLD hi (by decide) hl
    have hMG := hM0.get HLD hi (by decide) hl
    have v3 : vs 3 = .slice (some ⟨rb, ro, none⟩) t.rows.length c' := (KK.out 3 _ _).1 (hMG 3 (by decide) (hPR 3 rfl))
    have v5 : vs 5 = .int .i64 xg.row := (KK.out 5 _ _).1 (hMG 5 (by decide) (hPR 5 rfl))
    have hdp := dpa DD hpre 6 rfl
    have er := HER.out
    rw [v3, v5]
    go_simp
    exact hK.out _ _ ⟨Zd vs 6 (.pointer (some ⟨rb, ro + r * 2, none⟩)), (by simp [Zd, v3, v5, er]), hM0.read HLD HLQ HST 6 (by decide) (by decide) (by decide) hl _ hdp ((KK.out 6 _ _).2 rfl)⟩
   ·
    have hMB := hM0.below HLD hi (by decide) hl
    have hMG := hM0.get HLD hi (by decide) hl
    have v6 : vs 6 = .pointer (some ⟨rb, ro + r * 2, none⟩) := (KK.out 6 _ _).1 (hMG 6 (by decide) (hPR 6 rfl))
    have hdp := dpa DD hpre 7 rfl
    rw [v6]
    go_simp
    exact hK.out _ _ ⟨Zd vs 7 (.pointer (some ⟨rb, ro + r * 2, none⟩)), (by simp [Zd, v6]), hM0.read HLD HLQ HST 7 (by decide) (by decide) (by decide) hl _ hdp ((KK.out 7 _ _).2 rfl)⟩
   ·
    have hMB := hM0.below HLD hi (by decide) hl
    have hMG := hM0.get HLD hi (by decide) hl
    have v7 : vs 7 = .pointer (some ⟨rb, ro + r * 2, none⟩) := (KK.out 7 _ _).1 (hMG 7 (by decide) (hPR 7 rfl))
    have hdp := dpa DD hpre 8 rfl
    have x0 := Zg hMB fa
    rw [v7]
    go_simp
    exact hK.out _ _ ⟨Zd vs 8 (.slice (some ⟨bx, ox, none⟩) mx cx), (by simp [Zd, v7]), hM0.read HLD HLQ HST 8 (by decide) (by decide) (by decide) hl _ hdp ((KK.out 8 _ _).2 rfl)⟩
   · have hMB := hM0.below HLD hi (by decide) hl
     have hMG := hM0.get HLD hi (by decide) hl
     have hdp := dpa DD hpre 9 rfl
     go_simp
     exact hK.out _ _ ⟨Zd vs 9 (.pointer (some ⟨wr.heap.size, 4, none⟩)), rfl, hM0.read HLD HLQ HST 9 (by decide) (by decide) (by decide) hl _ hdp ((KK.out 9 _ _).2 rfl)⟩
   ·
    have hMB := hM0.below HLD hi (by decide) hl
    have hMG := hM0.get HLD hi (by decide) hl
    have v9 : vs 9 = .pointer (some ⟨wr.heap.size, 4, none⟩) := (KK.out 9 _ _).1 (hMG 9 (by decide) (hPR 9 rfl))
    have hdp := dpa DD hpre 10 rfl
    have x0 := Zg hMB x4
    rw [v9]
    go_simp
    exact hK.out _ _ ⟨Zd vs 10 (.int .i64 xg.inn), (by simp [Zd, v9]), hM0.read HLD HLQ HST 10 (by decide) (by decide) (by decide) hl _ hdp ((KK.out 10 _ _).2 rfl)⟩
   ·
    have hMB := hM0.below HLD hi (by decide) hl
    have hMG := hM0.get HLD hi (by decide) hl
    have v8 : vs 8 = .slice (some ⟨bx, ox, none⟩) mx cx := (KK.out 8 _ _).1 (hMG 8 (by decide) (hPR 8 rfl))
    have v10 : vs 10 = .int .i64 xg.inn := (KK.out 10 _ _).1 (hMG 10 (by decide) (hPR 10 rfl))
    have hdp := dpa DD hpre 11 rfl
    have er := HEQ.out
    rw [v8, v10]
    go_simp
    exact hK.out _ _ ⟨Zd vs 11 (.pointer (some ⟨bx, ox + tq * 11, none⟩)), (by simp [Zd, v8, v10, er]), hM0.read HLD HLQ HST 11 (by decide) (by decide) (by decide) hl _ hdp ((KK.out 11 _ _).2 rfl)⟩
   ·
    have hMB := hM0.below HLD hi (by decide) hl
    have hMG := hM0.get HLD hi (by decide) hl
    have v11 : vs 11 = .pointer (some ⟨bx, ox + tq * 11, none⟩) := (KK.out 11 _ _).1 (hMG 11 (by decide) (hPR 11 rfl))
    have hdp := dpa DD hpre 12 rfl
    rw [v11]
    go_simp
    exact hK.out _ _ ⟨Zd vs 12 (.pointer (some ⟨bx, ox + tq * 11, none⟩)), (by simp [Zd, v11]), hM0.read HLD HLQ HST 12 (by decide) (by decide) (by decide) hl _ hdp ((KK.out 12 _ _).2 rfl)⟩
   ·
    have hMB := hM0.below HLD hi (by decide) hl
    have hMG := hM0.get HLD hi (by decide) hl
    have v12 : vs 12 = .pointer (some ⟨bx, ox + tq * 11, none⟩) := (KK.out 12 _ _).1 (hMG 12 (by decide) (hPR 12 rfl))
    have hdp := dpa DD hpre 13 rfl
    have x0 := Zg hMB fb
    rw [v12]
    go_simp
    exact hK.out _ _ ⟨Zd vs 13 (.string tx), (by simp [Zd, v12]), hM0.read HLD HLQ HST 13 (by decide) (by decide) (by decide) hl _ hdp ((KK.out 13 _ _).2 rfl)⟩
   · have hMB := hM0.below HLD hi (by decide) hl
     have hMG := hM0.get HLD hi (by decide) hl
     have hdp := dpa DD hpre 14 rfl
     go_simp
     exact hK.out _ _ ⟨Zd vs 14 (.pointer (some ⟨Y, 8, none⟩)), rfl, hM0.read HLD HLQ HST 14 (by decide) (by decide) (by decide) hl _ hdp ((KK.out 14 _ _).2 rfl)⟩
   ·
    have hMB := hM0.below HLD hi (by decide) hl
    have hMG := hM0.get HLD hi (by decide) hl
    have v14 : vs 14 = .pointer (some ⟨Y, 8, none⟩) := (KK.out 14 _ _).1 (hMG 14 (by decide) (hPR 14 rfl))
    have hdp := dpa DD hpre 15 rfl
    have x0 := Zg hMB yl8
    rw [v14]
    go_simp
    exact hK.out _ _ ⟨Zd vs 15 (.slice Ax X.length dx), (by simp [Zd, v14]), hM0.read HLD HLQ HST 15 (by decide) (by decide) (by decide) hl _ hdp ((KK.out 15 _ _).2 rfl)⟩
   · have hMB := hM0.below HLD hi (by decide) hl
     have hMG := hM0.get HLD hi (by decide) hl
     have hdp := dpa DD hpre 16 rfl
     go_simp
     exact hK.out _ _ ⟨Zd vs 16 (.pointer (some ⟨w.heap.size, 4, none⟩)), rfl, hM0.read HLD HLQ HST 16 (by decide) (by decide) (by decide) hl _ hdp ((KK.out 16 _ _).2 rfl)⟩
   ·
    have hMB := hM0.below HLD hi (by decide) hl
    have hMG := hM0.get HLD hi (by decide) hl
    have v16 : vs 16 = .pointer (some ⟨w.heap.size, 4, none⟩) := (KK.out 16 _ _).1 (hMG 16 (by decide) (hPR 16 rfl))
    have hdp := dpa DD hpre 17 rfl
    have x0 := Zg hMB y4
    rw [v16]
    go_simp
    exact hK.out _ _ ⟨Zd vs 17 (.int .i64 t.gap), (by simp [Zd, v16]), hM0.read HLD HLQ HST 17 (by decide) (by decide) (by decide) hl _ hdp ((KK.out 17 _ _).2 rfl)⟩
   ·
    have hMB := hM0.below HLD hi (by decide) hl
    have hMG := hM0.get HLD hi (by decide) hl
    have hdp := dpa DD hpre 18 rfl
    have x0 := Zg hMB x0
    have x1 := Zg hMB x1
    have x2 := Zg hMB x2
    have x3 := Zg hMB x3
    have x4 := Zg hMB x4
    go_simp
    exact hK.out _ _ ⟨Zd vs 18 (.agg #[.int .i64 xg.row, .int .i64 xg.col, .int .i64 xg.rows, .int .i64 xg.cols, .int .i64 xg.inn]), rfl, hM0.read HLD HLQ HST 18 (by decide) (by decide) (by decide) hl _ hdp ((KK.out 18 _ _).2 rfl)⟩
   ·
    have hMB := hM0.below HLD hi (by decide) hl
    have hMG := hM0.get HLD hi (by decide) hl
    have v15 : vs 15 = .slice Ax X.length dx := (KK.out 15 _ _).1 (hMG 15 (by decide) (hPR 15 rfl))
    have v17 : vs 17 = .int .i64 t.gap := (KK.out 17 _ _).1 (hMG 17 (by decide) (hPR 17 rfl))
    have v18 : vs 18 = .agg #[.int .i64 xg.row, .int .i64 xg.col, .int .i64 xg.rows, .int .i64 xg.cols, .int .i64 xg.inn] := (KK.out 18 _ _).1 (hMG 18 (by decide) (hPR 18 rfl))
    have hdp := dpa DD hpre 19 rfl
    rw [v15, v17, v18]
    go_simp
    refine (HWC.out W hMB).mono ?_
    rintro e5 W5 ⟨rfl, hb5⟩
    exact hK.out _ _ ⟨Zd vs 19 (.int .i64 wc), (by simp [Zd, v15, v17, v18]), hM0.next HLD HLQ HST 19 (by decide) (by decide) (by decide) hl _ hdp hb5 ((KK.out 19 _ _).2 rfl)⟩
   ·
    have hMB := hM0.below HLD hi (by decide) hl
    have hMG := hM0.get HLD hi (by decide) hl
    have v13 : vs 13 = .string tx := (KK.out 13 _ _).1 (hMG 13 (by decide) (hPR 13 rfl))
    have v19 : vs 19 = .int .i64 wc := (KK.out 19 _ _).1 (hMG 19 (by decide) (hPR 19 rfl))
    have hdp := dpa DD hpre 20 rfl
    rw [v13, v19]
    go_simp
    refine (HTL.out W hMB).mono ?_
    rintro e5 W5 ⟨v5, rfl, hS5, hb5⟩
    obtain ⟨As, ds, rfl⟩ := hS5.form
    exact hK.out _ _ ⟨Zd vs 20 (.slice As LS.length ds), (by simp [Zd, v13, v19]), hM0.next HLD HLQ HST 20 (by decide) (by decide) (by decide) hl _ hdp hb5 ((KK.out 20 _ _).2 ⟨As, ds, rfl, (hS5.base hMB.size)⟩)⟩
   ·
    have hMB := hM0.below HLD hi (by decide) hl
    have hMG := hM0.get HLD hi (by decide) hl
    obtain ⟨As, ds, v20, q20⟩ := (KK.out 20 _ _).1 (hMG 20 (by decide) (hPR 20 rfl))
    have hdp := dpa DD hpre 21 rfl
    rw [v20]
    go_simp
    exact hK.out _ _ ⟨Zd vs 21 (.slice (some ⟨W.heap.size, 0, none⟩) 1 1), (by simp [Zd, v20]), hM0.next HLD HLQ HST 21 (by decide) (by decide) (by decide) hl _ hdp (Zc (Zf _) _) ((KK.out 21 _ _).2 ⟨As, ds, _, rfl, ⟨Zj _ _ _ _ 0 _ rfl, q20.below (Zc (Zf _) _)⟩⟩)⟩
   ·
    have hMB := hM0.below HLD hi (by decide) hl
    have hMG := hM0.get HLD hi (by decide) hl
    have v1 : vs 1 = vl := (KK.out 1 _ _).1 (hMG 1 (by decide) (hPR 1 rfl))
    obtain ⟨Ab, db, B21, v21, q21⟩ := (KK.out 21 _ _).1 (hMG 21 (by decide) (hPR 21 rfl))
    obtain ⟨As, ds, v20, q20⟩ := (KK.out 20 _ _).1 (hMG 20 (by decide) (hPR 20 rfl))
    have hdp := dpa DD hpre 22 rfl
    rw [v1, v21, v20]
    rw [if_pos (by simp [Region.wanted])]
    have hY9 := HYD.out.below hMB
    refine Zfp (α := ByteArray) (.tmp 32) (.tmp 52) 31 44 9 (.slice none 0 0) 1 Zci (by decide) Zqk Zni rfl rfl V.drew.heap.size vl (.slice Ab LS.length db) LNi LS (by simp [Act.eval, v1]) hY9.lines (Jw q21.2 HZS.out) (fun vs9 o1 o2 => ?_) rfl ⟨B21, 0, none⟩ 1 (by simp [Act.eval, v21]) q21.1 HNL.out (Nat.le_trans HZS.out hMB.size) ?_
    · obtain ⟨vs8, o3, o4⟩ := HYD.out.lines
      have e9 : vs9 = vs8 := Zob (Qx o3 hMB) o1
      rw [e9]
      exact o4.apart (Nat.le_refl _) (fun b hb => (Qo q21.2 hb).1)
    intro v9 W9 h2 h3
    exact hK.out _ _ ⟨Zd vs 22 v9, by simp [Zd, Act.put, v1, v20, v21], hM0.app HLD HLQ (by decide) hl _ hdp ⟨h2, h3⟩⟩
   · have hdp := dpa DD hpre 23 rfl
     go_simp
     exact hK.out _ _ ⟨Zd vs 23 (.pointer (some ⟨Y, 9, none⟩)), rfl, hM0.alone HLQ 23 (by decide) (by decide) hl _ p23.symm hdp⟩
   have hdp := dpa DD hpre 24 rfl
   have hlm : l.getD 22 false = true := hpre ⟨22, .data⟩ (by simp) rfl
   have v23 : vs 23 = .pointer (some ⟨Y, 9, none⟩) := (hM0.at 23 (by decide) (by decide) (hPR 23 rfl)).trans p23
   obtain ⟨W1, hB1, hK1, hR1⟩ := hM0.held (by decide) hl HLQ hlm
   have hY1 := HYD.out.below hB1
   have hb9 := hY1.blk.keep (hR1.2.block Y hY1.typ.lt (fun e => hY1.typ.ne (hY1.lines.typed e.symm) (by decide) rfl))
   have s9 := hb9.1 9 vl (by rw [List.getElem?_append_right (by have := HL8.out; omega), HL8.out]; rfl)
   have fz := hb9.2 9
   obtain ⟨A9, c9, e9⟩ := hR1.1.form
   rw [List.length_append, List.length_singleton] at e9
   rw [v23, e9]
   go_simp
   exact hK.out _ _ ⟨Zd vs 24 undef, by simp [Zd, v23, e9], hM0.store HLQ (by decide) hl hlm _ hdp (by rw [e9])⟩
  rintro l a W6 hall ⟨vs6, rfl, hM0⟩
  obtain ⟨W61, W62, hMB, hMG, hMR, hMF⟩ := hM0.fin (by decide) hall
  have HBW := Za hMB
  have hYN := (HYD.out.below HBW.out).line HL8.out hMR.2 hMR.1
  rw [← hMF, ← HLT3.out] at hYN
  have HYN := Za hYN
  have HBN : Hid (Below V.drew.heap.size V.drew W6) := by
   rw [hMF]
   exact Yi ((step HBD6.out HBW.out).trans (Qg hMR.2 (Nat.le_trans HZS.out HBW.out.size) (fun b hb => ((HYD.out.below HBW.out).lines.lt hb).1))) (show V.drew.heap.size ≤ Y from HYD.out.low) _
  clear p23 HLD HLQ HST hMG hYN hMR hMF hMB hall hM0 x0 x1 x2 x3 x4 y3 y4 yl8 yl9 fa fb hrz hqz HBW
  go_wp2_with fail
  go_roundg (GL.length - (i + 1))
  case measure => omega
  case rel => exact ⟨i + 1, by omega, by omega, by go_num, (show Aside _ from ⟨_, HYN.out⟩), HBN.out⟩
 have hltz : ¬ (i : Int) < (GL.length : Int) := by omega
 have hie : i = GL.length := by omega
 subst hie
 have HY4 : Hid (YSt wr V.drew.heap.size Y HD X (Zy t GL X) (List.replicate t.rows.length 0) (.slice Ax X.length dx) vl (.slice (some ⟨g8, 0, none⟩) t.rows.length t.rows.length)) := by
  have := hyl
  rw [List.take_length] at this
  exact this
 clear HYL hyl
 obtain ⟨LN, hLN⟩ : ∃ L, Zy t GL X = L := ⟨_, rfl⟩
 rw [hLN] at HY4
 have hln : LN.length = GL.length := by rw [← hLN]; unfold Zy; simp
 have hl31 : ∀ l ∈ LN, l.length ≤ 31 := fun l hl => by
  rw [← hLN] at hl
  obtain ⟨x, _, rfl⟩ := List.mem_map.1 hl
  exact Zjd _ _
 have hres : Zcv GL (Zy t GL X) t.rows.length t.rows.length = Qr (Qf GL LN) t.rows.length (List.replicate t.rows.length 0) := by rw [hLN]; rfl
 have hCE : ∀ p ∈ Qf GL LN, 0 ≤ p.2 ∧ p.2 ≤ 31 := fun p hp => by
  have h2 : p.2 ∈ LN.map fun l => (l.length : Int) := (List.of_mem_zip (show (p.1, p.2) ∈ _ from hp)).2
  obtain ⟨l, hl, e2⟩ := List.mem_map.1 h2
  have := hl31 l hl
  omega
 have HCE := Za hCE
 have HRES := Za (And.intro hres hLN)
 have HLN := Za hln
 have HL31 := Za hl31
 have hl8 : HD.length = 8 := by rw [HHD.out]; rfl
 have HL8 := Za hl8
 have y10 : wr.cell? ⟨Y, 10, none⟩ = some (.slice (some ⟨g8, 0, none⟩) t.rows.length t.rows.length) := HY4.out.blk.1 10 _ (by rw [List.getElem?_append_right (by omega), hl8]; rfl)
 obtain ⟨Al, cl, hvl⟩ := HY4.out.lines.form
 rw [hln] at hvl
 subst hvl
 clear hres hLN hln hl31 hCE hl8 hltz
 go_wp2_with fail
 clear y10
 go_loopg [9, 10, 11, 59] t.rows.length (fun gg s9 s10 s11 s59 wr => ∃ r : Nat, r ≤ t.rows.length ∧ t.rows.length - r ≤ gg ∧ s59 = .int .i64 r ∧ Aside (YSt wr V.drew.heap.size Y HD X LN (Qr (Qf GL LN) r (List.replicate t.rows.length 0)) (.slice Ax X.length dx) (.slice Al GL.length cl) (.slice (some ⟨g8, 0, none⟩) t.rows.length t.rows.length)) ∧ Aside (Below V.drew.heap.size V.drew wr))
 case atStart => exact ⟨0, Nat.zero_le _, by omega, rfl, HY4.out, HBR.out⟩
 obtain ⟨r, hr, hgr, rfl, HYR, HB8⟩ := hrel
 clear HY4 HBR
 by_cases hlt8 : r < t.rows.length
 ·
  have hltz8 : (r : Int) < (t.rows.length : Int) := by omega
  have k2 : wr.cell? ⟨w2.heap.size, 2, none⟩ = some (.slice GA GL.length gc) := Zg HB8.out (Zg (Zt (Zf V)) (HKG.out.1 2 _ rfl))
  obtain ⟨Zr, hZr⟩ : ∃ Z, Qr (Qf GL LN) r (List.replicate t.rows.length 0) = Z := ⟨_, rfl⟩
  have hZb : Zld Zr := by rw [← hZr]; exact Ze6 _ HCE.out _ _
  have hZl : Zr.length = t.rows.length := by rw [← hZr]; exact Zbi _ _ _
  have HZN : Hid (Qr (Qf GL LN) (r + 1) (List.replicate t.rows.length 0) = (Qf GL LN).foldl (Jg r) Zr) := by rw [← hZr]; exact rfl
  rw [hZr] at HYR
  have HZB := Za hZb
  have HZL := Za hZl
  clear hZr hZb hZl
  go_wp2_with fail
  clear k2
  go_loopg [10, 11, 65] GL.length (fun gg s10 s11 s65 wr => ∃ i : Nat, i ≤ GL.length ∧ GL.length - i ≤ gg ∧ s65 = .int .i64 i ∧ Aside (YSt wr V.drew.heap.size Y HD X LN (((Qf GL LN).take i).foldl (Jg r) Zr) (.slice Ax X.length dx) (.slice Al GL.length cl) (.slice (some ⟨g8, 0, none⟩) t.rows.length t.rows.length)) ∧ Aside (Below V.drew.heap.size V.drew wr))
  case atStart => exact ⟨0, Nat.zero_le _, by omega, rfl, HYR.out, HB8.out⟩
  obtain ⟨i, hi, hgi, rfl, HYI, HB9⟩ := hrel
  clear HYR HB8
  by_cases hlt9 : i < GL.length
  ·
   have hltz9 : (i : Int) < (GL.length : Int) := by omega
   obtain ⟨bG, oG, c0', c1', c2', c3', c4', rfl, hbg, hKx, k0, k1, k2, k3, k4⟩ := HGV.out.at5 rfl (Zt (Zf V)) i hlt9
   have ex : [c0', c1', c2', c3', c4'] = gcE GL[i] := hKx.1
   obtain ⟨xg, hxg⟩ : ∃ x, GL[i] = x := ⟨_, rfl⟩
   rw [hxg] at ex
   simp only [gcE, List.cons.injEq, and_true] at ex
   obtain ⟨rfl, rfl, rfl, rfl, rfl⟩ := ex
   obtain ⟨hCA, hPC, hR1, hR2⟩ := HCA.out xg (by rw [← hxg]; exact List.getElem_mem hlt9)
   obtain ⟨q, hq⟩ := Int.eq_ofNat_of_zero_le hCA.1.1
   have hlnl : i < LN.length := by have := HLN.out; omega
   obtain ⟨ls, hls⟩ : ∃ l, LN[i] = l := ⟨_, rfl⟩
   have hls31 : ls.length ≤ 31 := by rw [← hls]; exact HL31.out _ (List.getElem_mem hlnl)
   have hstep : ((Qf GL LN).take (i + 1)).foldl (Jg r) Zr = Jg r (((Qf GL LN).take i).foldl (Jg r) Zr) (xg, (ls.length : Int)) := by
    have hcl2 : i < (Qf GL LN).length := by unfold Qf; rw [List.length_zip, List.length_map]; omega
    have e9 : (Qf GL LN)[i] = (xg, (ls.length : Int)) := by
     simp only [Qf, List.getElem_zip, List.getElem_map]
     rw [hxg, hls]
    rw [List.take_succ_eq_append_getElem hcl2, List.foldl_append, e9]; rfl
   obtain ⟨Zi, hZi⟩ : ∃ Z, ((Qf GL LN).take i).foldl (Jg r) Zr = Z := ⟨_, rfl⟩
   have hZb : Zld Zi := by rw [← hZi]; exact Zhm _ _ HZB.out (fun p hp => HCE.out p (List.mem_of_mem_take hp))
   have hZl : Zi.length = t.rows.length := by rw [← hZi, Zdi]; exact HZL.out
   rw [hZi] at hstep HYI
   rw [Zj0, hq, Int.toNat_natCast] at hstep
   rw [hq] at k0 hR2
   have k0 := Zg HB9.out k0
   have k1 := Zg HB9.out k1
   have k2 := Zg HB9.out k2
   have k3 := Zg HB9.out k3
   have k4 := Zg HB9.out k4
   have hrb := hrw
   have hp2 := hPC.2.2.1
   have t1 := IntWalk.i64_in ((q : Int) + xg.rows) (by omega)
   have t2 := IntWalk.i64_in ((q : Int) + xg.rows - 1) (by omega)
   have HLS := Za hls
   have HZB2 := Za hZb
   have HZL2 := Za hZl
   have HYI2 := Za HYI.out
   clear hKx hxg hCA hPC hZi hZb hZl HYI hls hp2
   by_cases heq : (q : Int) + xg.rows - 1 = (r : Int)
   ·
    rw [if_pos heq] at hstep
    have HST := Za hstep
    have heb : ((q : Int) + xg.rows - 1 == (r : Int)) = true := by rw [heq]; simp
    have hqr : q ≤ r := by omega
    clear hstep heq hR1 hR2
    go_upto_region 15 with fail
    obtain ⟨V7, hV7⟩ : ∃ W, W = wr.alloc (.cells #[.int .i64 q, .int .i64 xg.col, .int .i64 xg.rows, .int .i64 xg.cols, .int .i64 xg.inn] 43) := ⟨_, rfl⟩
    rw [← hV7]
    have hK8 : Zh V7 wr.heap.size [.int .i64 q, .int .i64 xg.col, .int .i64 xg.rows, .int .i64 xg.cols, .int .i64 xg.inn] := by rw [hV7]; exact Zh.new wr _ _
    have ed : Below wr.heap.size wr V7.drew := Zt (by rw [hV7]; exact Zc (Zf _) _)
    have HBD7 := Za (step HB9.out ed)
    have HYD := Za (HYI2.out.below ed)
    have x0 := Zg (Zt (Zf V7)) (hK8.1 0 _ rfl)
    have hl8 := HL8.out
    have yl9 : V7.drew.cell? ⟨Y, 9, none⟩ = some (.slice Al GL.length cl) := HYD.out.blk.1 9 _ (by rw [List.getElem?_append_right (by omega), hl8]; rfl)
    have yl10 : V7.drew.cell? ⟨Y, 10, none⟩ = some (.slice (some ⟨g8, 0, none⟩) t.rows.length t.rows.length) := HYD.out.blk.1 10 _ (by rw [List.getElem?_append_right (by omega), hl8]; rfl)
    have hrd := Zjf (enc := Zci) (k := 1) (hk := fun _ => rfl) HYD.out.lines
    obtain ⟨bl, ol, A2, c2, hAl, _, hli, _⟩ := Zf2 hrd (Zf _) i hlnl
    rw [HLS.out] at hli
    rw [hAl] at yl9
    have hzr := HYD.out.rows.cell r (by have := HZL2.out; omega)
    have hzf := HYD.out.rows.frozen r
    have hstep := HST.out
    clear HST
    obtain ⟨zr, hzre⟩ : ∃ z, Zi.getD r 0 = z := ⟨_, rfl⟩
    obtain ⟨sw, hsw⟩ : ∃ z, Yk Zi q (r - q) = z := ⟨_, rfl⟩
    have hzb := HZB2.out
    have hzr31 : 0 ≤ zr ∧ zr ≤ 31 := by
     rw [← hzre, List.getD_eq_getElem?_getD]
     cases e : Zi[r]? with
     | none => simp
     | some v => exact hzb v (List.mem_of_getElem? e)
    have hwl : ((Zi.drop q).take (r - q)).length = r - q := by rw [List.length_take, List.length_drop, HZL2.out]; omega
    have hwb : ∀ x ∈ (Zi.drop q).take (r - q), 0 ≤ x ∧ x ≤ 31 := fun x hx => hzb x (List.mem_of_mem_drop (List.mem_of_mem_take hx))
    have hsw31 : 0 ≤ sw ∧ sw ≤ 31 * 8 := by
     rw [← hsw]
     have := Zey 31 _ hwb
     rw [hwl] at this
     unfold Yk
     omega
    have HSUM : Hid (∀ W, Below V7.drew.heap.size V7.drew W → Calls Tryz.prog 90 #[.slice (some ⟨g8, q, none⟩) (r - q) (t.rows.length - q)] W fun e w' => e = .returned (.int .i64 sw) ∧ w' = W) := fun W hb => by
     have h1 := Zkj (Qq (HYD.out.rows.below hb)) rfl q (r - q)
     rw [Nat.zero_add] at h1
     have h2 := Zbm (some ⟨g8, q, none⟩) (t.rows.length - q) ((Zi.drop q).take (r - q)) W h1 (fun x hx => by have := hwb x hx; omega) (by rw [hwl]; omega)
     rw [hwl, show Zq ((Zi.drop q).take (r - q)) = sw from hsw] at h2
     exact h2
    rw [hzre] at hzr
    rw [hzre, hsw] at hstep
    have t3 := IntWalk.i64_in ((ls.length : Int) - sw) (by omega)
    have hs2 : (q : Int) ≤ (r : Int) := by omega
    have hs3 : (r : Int) ≤ (t.rows.length : Int) := by omega
    have hs4 : r ≤ t.rows.length := by omega
    have hs5 : ¬ t.rows.length = q := by omega
    have HSP2 := Za hstep
    have HGL : Hid (g8 < V7.drew.heap.size) := (HYD.out.rows.lt rfl).2
    have hmax := Zdc
    clear hV7 hK8 ed hl8 hrd hAl hzre hsw hzb hzr31 hwl hwb hsw31 hstep k0 k1 k2 k3 k4 HYI2 HZB2 hls31 hrb t1 t2 heb HZL2
    obtain ⟨KF, hKF⟩ : ∃ f : Nat → Value → World → Prop, f = (fun j v W => match j with | 0 => v = .pointer (some ⟨Y, 10, none⟩) | 1 => v = .slice (some ⟨g8, 0, none⟩) t.rows.length t.rows.length | 2 => v = .int .i64 ↑r | 3 => v = .pointer (some ⟨Y, 10, none⟩) | 4 => v = .slice (some ⟨g8, 0, none⟩) t.rows.length t.rows.length | 5 => v = .int .i64 ↑r | 6 => v = .pointer (some ⟨g8, r, none⟩) | 7 => v = .int .i64 zr | 8 => v = .pointer (some ⟨Y, 9, none⟩) | 9 => v = .slice (some ⟨bl, ol, none⟩) GL.length cl | 10 => v = .int .i64 ↑i | 11 => v = .pointer (some ⟨bl, ol + i, none⟩) | 12 => v = .slice A2 ls.length c2 | 13 => v = .int .i64 (ls.length : Int) | 14 => v = .pointer (some ⟨Y, 10, none⟩) | 15 => v = .slice (some ⟨g8, 0, none⟩) t.rows.length t.rows.length | 16 => v = .pointer (some ⟨wr.heap.size, 0, none⟩) | 17 => v = .int .i64 q | 18 => v = .int .i64 ↑r | 19 => v = .slice (some ⟨g8, q, none⟩) (r - q) (t.rows.length - q) | 20 => v = .int .i64 sw | 21 => v = .int .i64 (↑ls.length - sw) | 22 => v = .int .i64 (max zr (↑ls.length - sw)) | 23 => v = .pointer (some ⟨g8, r, none⟩) | _ => True) := ⟨_, rfl⟩
    have KK := Za (kf hKF)
    have HST : Yw KF := by
     rw [hKF]
     intro j v W W9 h hb
     by_cases hjn : j < 25
     ·
      obtain rfl|rfl|rfl|rfl|rfl|rfl|rfl|rfl|rfl|rfl|rfl|rfl|rfl|rfl|rfl|rfl|rfl|rfl|rfl|rfl|rfl|rfl|rfl|rfl|rfl : j = 0 ∨ j = 1 ∨ j = 2 ∨ j = 3 ∨ j = 4 ∨ j = 5 ∨ j = 6 ∨ j = 7 ∨ j = 8 ∨ j = 9 ∨ j = 10 ∨ j = 11 ∨ j = 12 ∨ j = 13 ∨ j = 14 ∨ j = 15 ∨ j = 16 ∨ j = 17 ∨ j = 18 ∨ j = 19 ∨ j = 20 ∨ j = 21 ∨ j = 22 ∨ j = 23 ∨ j = 24 := by omega
      · exact h
      · exact h
      · exact h
      · exact h
      · exact h
      · exact h
      · exact h
      · exact h
      · exact h
      · exact h
      · exact h
      · exact h
      · exact h
      · exact h
      · exact h
      · exact h
      · exact h
      · exact h
      · exact h
      · exact h
      · exact h
      · exact h
      · exact h
      · exact h
      exact trivial
     obtain ⟨k, rfl⟩ : ∃ k, j = k + 25 := ⟨j - 25, by omega⟩
     exact h
    clear hKF
    obtain ⟨dep, hdep⟩ : ∃ f : Nat → List Nat, f = (fun j => match j with | 1 => [0] | 4 => [3] | 6 => [4, 5] | 7 => [6] | 9 => [8] | 11 => [9, 10] | 12 => [11] | 13 => [12] | 15 => [14] | 17 => [16] | 19 => [15, 17, 18] | 20 => [19] | 21 => [13, 20] | 22 => [7, 21] | 23 => [1, 2] | 24 => [23, 22, 20] | _ => []) := ⟨_, rfl⟩
    have DD := Za hdep
    clear hdep
    have HLD : Yt 25 24 dep := Zbo DD.out (by decide)
    obtain ⟨st, hst⟩ : ∃ f : Nat → Value, f = (fun j => match j with | 0 => u78 | 1 => u79 | 2 => u80 | 3 => u81 | 4 => u82 | 5 => u83 | 6 => u84 | 7 => u85 | 8 => u86 | 9 => u87 | 10 => u88 | 11 => u89 | 12 => u90 | 13 => u91 | 14 => u92 | 15 => u93 | 16 => u94 | 17 => u95 | 18 => u96 | 19 => u97 | 20 => u98 | 21 => u99 | 22 => u100 | 23 => u101 | _ => undef) := ⟨_, rfl⟩
    have ST := Za hst
    clear hst
    refine Qe (fun l a W => ∃ vs : Nat → Value, a = ⟨List.toArray ((Ya A t c A' c') :: .int .i64 width :: .pointer (some ⟨w.heap.size, 0, none⟩) :: Zb :: .pointer (some ⟨w.heap.size + 1, 0, none⟩) :: .pointer (some ⟨w2.heap.size, 0, none⟩) :: .pointer (some ⟨Y, 0, none⟩) :: Zb :: u8 :: .int .i64 ↑r :: .int .i64 ↑i :: .pointer (some ⟨wr.heap.size, 0, none⟩) :: (Ya A t c A' c') :: .agg #[.int .i64 ↑t.rows.length, .int .i64 ↑n2, .slice (some ⟨bG, oG, none⟩) GL.length gc] :: vs2 0 :: vs2 1 :: vs2 2 :: vs2 3 :: vs2 4 :: vs2 5 :: vs2 6 :: vs2 7 :: vs2 8 :: vs2 9 :: .pointer (some ⟨w2.heap.size, 2, none⟩) :: .slice (some ⟨bG, oG, none⟩) GL.length gc :: .int .i64 ↑GL.length :: .int .i64 ↑GL.length :: .bool false :: u29 :: u30 :: u31 :: u32 :: u33 :: u34 :: u35 :: u36 :: u37 :: u38 :: u39 :: u40 :: u41 :: u42 :: u43 :: u44 :: u45 :: u46 :: u47 :: u48 :: u49 :: u50 :: u51 :: u52 :: u53 :: u54 :: u55 :: .pointer (some ⟨Y, 10, none⟩) :: .slice (some ⟨g8, 0, none⟩) t.rows.length t.rows.length :: .int .i64 ↑t.rows.length :: .int .i64 ↑r :: .bool true :: .int .i64 ↑r :: .pointer (some ⟨w2.heap.size, 2, none⟩) :: .slice (some ⟨bG, oG, none⟩) GL.length gc :: .int .i64 ↑GL.length :: .int .i64 ↑i :: .bool true :: .int .i64 ↑i :: .pointer (some ⟨bG, oG + i * 5, none⟩) :: .agg #[.int .i64 ↑q, .int .i64 xg.col, .int .i64 xg.rows, .int .i64 xg.cols, .int .i64 xg.inn] :: .pointer (some ⟨wr.heap.size, 0, none⟩) :: .int .i64 ↑q :: .pointer (some ⟨wr.heap.size, 2, none⟩) :: .int .i64 xg.rows :: .int .i64 (↑q + xg.rows) :: .int .i64 (↑q + xg.rows - 1) :: .int .i64 ↑r :: .bool true :: vs 0 :: vs 1 :: vs 2 :: vs 3 :: vs 4 :: vs 5 :: vs 6 :: vs 7 :: vs 8 :: vs 9 :: vs 10 :: vs 11 :: vs 12 :: vs 13 :: vs 14 :: vs 15 :: vs 16 :: vs 17 :: vs 18 :: vs 19 :: vs 20 :: vs 21 :: vs 22 :: vs 23 :: u102 :: u103 :: Zb :: []), []⟩ ∧ Yp KF 25 24 dep (V7.drew) (fun W v W2 => W2 = W.setCell ⟨g8, r, none⟩ (.int .i64 (max zr (↑ls.length - sw)))) st l vs W) (by kernel_rfl) ?top ?start ?step ?fin
    case top => exact Zae (by kernel_rfl)
    case start => exact ⟨st, by rw [ST.out]; first | done | rfl, Yp.start⟩
    case step =>
     rintro l a W i o ho hl hpre hsz ⟨vs, rfl, hM0⟩ K hK
     have hi : i < 25 := (Array.getElem?_eq_some_iff.1 ho).1
     obtain rfl|rfl|rfl|rfl|rfl|rfl|rfl|rfl|rfl|rfl|rfl|rfl|rfl|rfl|rfl|rfl|rfl|rfl|rfl|rfl|rfl|rfl|rfl|rfl|rfl := Zwa hi
     all_goals
      simp only [List.getElem?_toArray, List.getElem?_cons_zero, List.getElem?_cons_succ, Option.some.injEq] at ho
      subst ho
      have hMB := hM0.below HLD hi (by decide) hl
      have hMG := hM0.get HLD hi (by decide) hl
      have hV := Zsd KK hMG hpre
      try have stl := hM0.sti HLD HST KK DD hpre hi (by decide) hl
     · go_simp
       exact hK.out _ _ ⟨Zd vs 0 _, rfl, stl _ rfl rfl⟩
     · have v0 : vs 0 = .pointer (some ⟨Y, 10, none⟩) := hV 0 rfl
       have x0 := Zg hMB yl10
       rw [v0]
       go_simp
       exact hK.out _ _ ⟨Zd vs 1 _, (by simp [Zd, v0]), stl _ rfl rfl⟩
     · go_simp
       exact hK.out _ _ ⟨Zd vs 2 _, rfl, stl _ rfl rfl⟩
     · go_simp
       exact hK.out _ _ ⟨Zd vs 3 _, rfl, stl _ rfl rfl⟩
     · have v3 : vs 3 = .pointer (some ⟨Y, 10, none⟩) := hV 3 rfl
       have x0 := Zg hMB yl10
       rw [v3]
       go_simp
       exact hK.out _ _ ⟨Zd vs 4 _, (by simp [Zd, v3]), stl _ rfl rfl⟩
     · go_simp
       exact hK.out _ _ ⟨Zd vs 5 _, rfl, stl _ rfl rfl⟩
     · have v4 : vs 4 = .slice (some ⟨g8, 0, none⟩) t.rows.length t.rows.length := hV 4 rfl
       have v5 : vs 5 = .int .i64 ↑r := hV 5 rfl
       rw [v4, v5]
       go_simp
       exact hK.out _ _ ⟨Zd vs 6 _, (by simp [Zd, v4, v5]), stl _ rfl rfl⟩
     · have v6 : vs 6 = .pointer (some ⟨g8, r, none⟩) := hV 6 rfl
       have x0 := Zg hMB hzr
       rw [v6]
       go_simp
       exact hK.out _ _ ⟨Zd vs 7 _, (by simp [Zd, v6]), stl _ rfl rfl⟩
     · go_simp
       exact hK.out _ _ ⟨Zd vs 8 _, rfl, stl _ rfl rfl⟩
     · have v8 : vs 8 = .pointer (some ⟨Y, 9, none⟩) := hV 8 rfl
       have x0 := Zg hMB yl9
       rw [v8]
       go_simp
       exact hK.out _ _ ⟨Zd vs 9 _, (by simp [Zd, v8]), stl _ rfl rfl⟩
     · go_simp
       exact hK.out _ _ ⟨Zd vs 10 _, rfl, stl _ rfl rfl⟩
     · have v9 : vs 9 = .slice (some ⟨bl, ol, none⟩) GL.length cl := hV 9 rfl
       have v10 : vs 10 = .int .i64 ↑i := hV 10 rfl
       rw [v9, v10]
       go_simp
       exact hK.out _ _ ⟨Zd vs 11 _, (by simp [Zd, v9, v10]), stl _ rfl rfl⟩
     · have v11 : vs 11 = .pointer (some ⟨bl, ol + i, none⟩) := hV 11 rfl
       have x0 := Zg hMB hli
       rw [v11]
       go_simp
       exact hK.out _ _ ⟨Zd vs 12 _, (by simp [Zd, v11]), stl _ rfl rfl⟩
     · have v12 : vs 12 = .slice A2 ls.length c2 := hV 12 rfl
       rw [v12]
       go_simp
       exact hK.out _ _ ⟨Zd vs 13 _, (by simp [Zd, v12]), stl _ rfl rfl⟩
     · go_simp
       exact hK.out _ _ ⟨Zd vs 14 _, rfl, stl _ rfl rfl⟩
     · have v14 : vs 14 = .pointer (some ⟨Y, 10, none⟩) := hV 14 rfl
       have x0 := Zg hMB yl10
       rw [v14]
       go_simp
       exact hK.out _ _ ⟨Zd vs 15 _, (by simp [Zd, v14]), stl _ rfl rfl⟩
     · go_simp
       exact hK.out _ _ ⟨Zd vs 16 _, rfl, stl _ rfl rfl⟩
     · have v16 : vs 16 = .pointer (some ⟨wr.heap.size, 0, none⟩) := hV 16 rfl
       have x0 := Zg hMB x0
       rw [v16]
       go_simp
       exact hK.out _ _ ⟨Zd vs 17 _, (by simp [Zd, v16]), stl _ rfl rfl⟩
     · go_simp
       exact hK.out _ _ ⟨Zd vs 18 _, rfl, stl _ rfl rfl⟩
     · have v15 : vs 15 = .slice (some ⟨g8, 0, none⟩) t.rows.length t.rows.length := hV 15 rfl
       have v17 : vs 17 = .int .i64 q := hV 17 rfl
       have v18 : vs 18 = .int .i64 ↑r := hV 18 rfl
       rw [v15, v17, v18]
       go_simp
       exact hK.out _ _ ⟨Zd vs 19 _, (by simp [Zd, v15, v17, v18]), stl _ rfl rfl⟩
     · have v19 : vs 19 = .slice (some ⟨g8, q, none⟩) (r - q) (t.rows.length - q) := hV 19 rfl
       have hdp := dpa DD hpre 20 rfl
       rw [v19]
       go_simp
       refine (HSUM.out W hMB).mono ?_
       rintro e5 W5 ⟨rfl, hq5⟩
       exact hK.out _ _ ⟨Zd vs 20 (.int .i64 sw), (by simp [Zd, v19]), hM0.next HLD HST 20 (by decide) (by decide) hl _ hdp (by rw [hq5]; exact Zf _) ((KK.out 20 _ _).2 rfl)⟩
     · have v13 : vs 13 = .int .i64 (ls.length : Int) := hV 13 rfl
       have v20 : vs 20 = .int .i64 sw := hV 20 rfl
       rw [v13, v20]
       go_simp
       exact hK.out _ _ ⟨Zd vs 21 _, (by simp [Zd, v13, v20]), stl _ rfl rfl⟩
     · have v7 : vs 7 = .int .i64 zr := hV 7 rfl
       have v21 : vs 21 = .int .i64 (↑ls.length - sw) := hV 21 rfl
       rw [v7, v21]
       go_simp
       exact hK.out _ _ ⟨Zd vs 22 _, (by simp [Zd, v7, v21]), stl _ rfl rfl⟩
     · have v1 : vs 1 = .slice (some ⟨g8, 0, none⟩) t.rows.length t.rows.length := hV 1 rfl
       have v2 : vs 2 = .int .i64 ↑r := hV 2 rfl
       rw [v1, v2]
       go_simp
       exact hK.out _ _ ⟨Zd vs 23 _, (by simp [Zd, v1, v2]), stl _ rfl rfl⟩
     have v23 : vs 23 = .pointer (some ⟨g8, r, none⟩) := hV 23 rfl
     have v22 : vs 22 = .int .i64 (max zr (↑ls.length - sw)) := hV 22 rfl
     have v20 : vs 20 = .int .i64 sw := hV 20 rfl
     have hdp := dpa DD hpre 24 rfl
     have hno : ∀ j, 24 < j → l.getD j false = true → 24 ∈ dep j := by
      intro j hj hj2
      have hjn : j < 25 := by have := Zap hj2; rw [hM0.size] at this; exact this
      omega
     rw [v23, v22, v20]
     have s9 := Zg hMB hzr
     have fz := (hMB.frozen (p := ⟨g8, r, none⟩) HGL.out).trans hzf
     go_simp
     exact hK.out _ _ ⟨Zd vs 24 undef, by simp [Zd, v23, v22, v20], hM0.last HLD (by decide) hl hno _ hdp rfl⟩
    rintro l a W15 hall ⟨vs15, rfl, hM0⟩
    obtain ⟨W151, hMB, hMG, hMR, hMA⟩ := hM0.fin (by decide) hall
    have HBW := Za hMB
    have hYN := (HYD.out.below HBW.out).row r (max zr (↑ls.length - sw))
    rw [← hMR, ← HSP2.out] at hYN
    have HYN := Za hYN
    have HBN : Hid (Below V.drew.heap.size V.drew W15) := by
     rw [hMR]
     exact Yi (step HBD7.out HBW.out) (show V.drew.heap.size ≤ g8 from ((HYD.out.below HBW.out).rows.lt rfl).1) _
    clear KK DD ST HLD HST hMG hYN hMR hMB hMA hall hM0 st x0 yl9 yl10 hli hzr hzf t3 hs2 hs3 hs4 hs5 HBW
    go_wp2_with fail
    go_roundg (GL.length - (i + 1))
    case measure => omega
    case rel => exact ⟨i + 1, by omega, by omega, by go_num, HYN.out, HBN.out⟩
   rw [if_neg heq] at hstep
   have HST := Za hstep
   have heb : ((q : Int) + xg.rows - 1 == (r : Int)) = false := by simpa using heq
   clear hstep hR1 hR2
   go_wp2_with fail
   go_roundg (GL.length - (i + 1))
   case measure => omega
   case rel => exact ⟨i + 1, by omega, by omega, by go_num, (show Aside _ from by rw [HST.out]; exact HYI2.out.below (Zc (Zf _) _)), Zc HB9.out _⟩
  have hltz9 : ¬ (i : Int) < (GL.length : Int) := by omega
  have HYN : Hid (YSt wr V.drew.heap.size Y HD X LN (Qr (Qf GL LN) (r + 1) (List.replicate t.rows.length 0)) (.slice Ax X.length dx) (.slice Al GL.length cl) (.slice (some ⟨g8, 0, none⟩) t.rows.length t.rows.length)) := by
   have h9 := HYI.out
   rw [List.take_of_length_le (by unfold Qf; rw [List.length_zip]; omega), ← HZN.out] at h9
   exact h9
  go_wp2_with fail
  go_roundg (t.rows.length - (r + 1))
  case measure => omega
  case rel => exact ⟨r + 1, by omega, by omega, by go_num, HYN.out, HB9.out⟩
 have hltz8 : ¬ (r : Int) < (t.rows.length : Int) := by omega
 have hre : r = t.rows.length := by omega
 rw [hre] at HYR
 have hl8 := HL8.out
 have hblk := HYR.out.blk
 rw [HHD.out] at hblk
 have y0 := hblk.1 0 _ rfl
 have y1 := hblk.1 1 _ rfl
 have y2 := hblk.1 2 _ rfl
 have y3 := hblk.1 3 _ rfl
 have y4 := hblk.1 4 _ rfl
 have y5 := hblk.1 5 _ rfl
 have y6 := hblk.1 6 _ rfl
 have y7 := hblk.1 7 _ rfl
 have y8 := hblk.1 8 _ rfl
 have y9 := hblk.1 9 _ rfl
 have y10 := hblk.1 10 _ rfl
 have hVB : Below V.heap.size V wr := step (Zt (Zf V)) HB8.out
 have hrs := HKR.out.keep (hVB.block _ (by have := HZV.out; have := HZ2.out; omega))
 have z0 := hrs.1 0 _ rfl
 have z1 := hrs.1 1 _ rfl
 have z2 := hrs.1 2 _ rfl
 have z3 := hrs.1 3 _ rfl
 have z4 := hrs.1 4 _ rfl
 have z5 := hrs.1 5 _ rfl
 have z6 := hrs.1 6 _ rfl
 have z7 := hrs.1 7 _ rfl
 have z8 := hrs.1 8 _ rfl
 have z9 := hrs.1 9 _ rfl
 have z10 := hrs.1 10 _ rfl
 have fzr := hrs.2
 have HVB := Za hVB
 have HRS := Za hrs
 clear hblk hVB hrs hre
 go_wp2_with fail
 refine bodyPost_ret (v := .agg #[.slice A t.cols.length c, .int .i64 t.head, .int .i64 t.foot, .slice A' t.rows.length c', .int .i64 t.gap, .int .i64 t.rows.length, .int .i64 n2, .slice GA GL.length gc, .slice Ax X.length dx, .slice Al GL.length cl, .slice (some ⟨g8, 0, none⟩) t.rows.length t.rows.length]) (by simp [results, Tryz.results77, go_sem, *]) rfl ?_
 refine ⟨n2, rfl, .slice GA GL.length gc, .slice Ax X.length dx, .slice Al GL.length cl, .slice (some ⟨g8, 0, none⟩) t.rows.length t.rows.length, rfl, ?_⟩
 rw [HRES.out.1, HRES.out.2]
 obtain ⟨L11, hL11⟩ : ∃ L : List Value, L = [.slice A t.cols.length c, .int .i64 t.head, .int .i64 t.foot, .slice A' t.rows.length c', .int .i64 t.gap, .int .i64 t.rows.length, .int .i64 n2, .slice GA GL.length gc, .slice Ax X.length dx, .slice Al GL.length cl, .slice (some ⟨g8, 0, none⟩) t.rows.length t.rows.length] := ⟨_, rfl⟩
 have hfin : Ziq (Zoo wr (w.heap.size + 1) 0 L11) w.heap.size GL X LN (Qr (Qf GL LN) t.rows.length (List.replicate t.rows.length 0)) (.slice GA GL.length gc) (.slice Ax X.length dx) (.slice Al GL.length cl) (.slice (some ⟨g8, 0, none⟩) t.rows.length t.rows.length) ∧ Below w.heap.size w (Zoo wr (w.heap.size + 1) 0 L11) := by
  have hg9 := Zh6 L11 wr (w.heap.size + 1) 0
  have hT9 : Jn wr (w.heap.size + 1) 92 := HTR.out.keep (HVB.out.block _ HTR.out.lt)
  have hbs : w.heap.size ≤ V.drew.heap.size := HBD.out.size
  exact ⟨⟨Zab (Qx HOW.out HVB.out) hg9 hT9 (by decide), Zab (HYR.out.cols.base hbs) hg9 hT9 (by decide), (HYR.out.lines.rebase hbs).past hg9 hT9 (by decide) (by decide), Zab (HYR.out.rows.base hbs) hg9 hT9 (by decide)⟩, Zgo _ _ _ _ _ (step HBD.out HB8.out) (Nat.le_succ _)⟩
 rw [hL11] at hfin
 exact hfin
end Go.Proofs.YtgdmcmicfoamlaaGreatDoor
