import Derived.Test.YtgdmcmicfoamlaaGreatDoorMixTi
set_option linter.unusedVariables false
set_option linter.unusedSimpArgs false
set_option maxHeartbeats 8000000
set_option maxRecDepth 100000
namespace Go.Proofs.YtgdmcmicfoamlaaGreatDoor
open Go.RowKit
theorem Zji {w W : World} {b o : Nat} {xs : List Int} (h : Rd Za4 w (some ⟨b, o, none⟩) xs) (hb : Below w.heap.size w W) : ∀ j u, (xs.flatMap Zc5)[j]? = some u → W.cell? ((⟨b, o, none⟩ : Addr).add j) = some u := by
 intro j u hj
 have hjl : j < xs.length := by have := (List.getElem?_eq_some_iff.1 hj).1; rw [Zbh Zc5 1 (fun _ => rfl)] at this; omega
 obtain ⟨b', o', e, _, hc⟩ := Za3 h hb j hjl
 injection e with e; injection e with e1 e2; subst e1; subst e2
 rw [Znt xs j hjl] at hj
 injection hj with hj
 subst hj
 rw [Addr.add_lit, hc, List.getD_eq_getElem?_getD, List.getElem?_eq_getElem hjl]; rfl
def Zfe (w : World) (base g n : Nat) (L : List Bool) : Prop := L.length = n ∧ w.ownsRow base 4 1 (.slice (some ⟨g, 0, none⟩) n n) n (L.flatMap Zoc)
theorem Ze3 (xs : List Bool) : xs.flatMap Zoc = xs.map Value.bool := by
 induction xs with
 | nil => rfl
 | cons x xs ih => rw [List.flatMap_cons, ih]; rfl
theorem Zfe.rd {w : World} {base g n : Nat} {L : List Bool} (h : Zfe w base g n L) : Rd Ztp w (some ⟨g, 0, none⟩) L := by
 have h2 := h.2
 rw [← h.1] at h2
 obtain ⟨A, c', e, _, hr⟩ := Zdz (enc := Zoc) (k := 1) (hk := fun _ => rfl) h2
 injection e with e1
 rw [e1]; exact hr
theorem Zfe.keep {w w' : World} {base g n : Nat} {L : List Bool} (h : Zfe w base g n L) (hk : w'.heap[g]? = w.heap[g]?) : Zfe w' base g n L :=
 ⟨h.1, Jl h.2 fun b hb => by simp [Value.ownBlock] at hb; subst hb; exact hk⟩
theorem Zfe.cell {w : World} {base g n : Nat} {L : List Bool} (h : Zfe w base g n L) {j : Nat} (hj : j < n) : w.cell? ⟨g, j, none⟩ = some (.bool (L.getD j false)) := by
 have hl := h.1
 have := World.ownsRow.cellAt h.2 j (by omega)
 rw [this, Ze3, List.getElem?_map, List.getElem?_eq_getElem (by omega), List.getD_eq_getElem?_getD, List.getElem?_eq_getElem (by omega)]
 rfl
theorem Zfe.frozen {w : World} {base g n : Nat} {L : List Bool} (h : Zfe w base g n L) (j : Nat) : w.frozen? ⟨g, j, none⟩ = false := World.ownsRow.frozenAt h.2 j
theorem Zfe.lt {w : World} {base g n : Nat} {L : List Bool} (h : Zfe w base g n L) : g < w.heap.size := (Qo h.2 (b := g) rfl).2
theorem Zfe.store {w : World} {base g n : Nat} {L : List Bool} (h : Zfe w base g n L) (j : Nat) (y : Bool) : Zfe (w.setCell ⟨g, j, none⟩ (.bool y)) base g n (L.set j y) := by
 refine ⟨by simpa using h.1, ?_⟩
 have := (World.ownsRow.stored h.2 j (.bool y)).1
 rw [Ze3, List.map_set, ← Ze3]
 exact this
theorem Zrs : Tryz.prog.underlying 198 = some (.slice 4) := by kernel_rfl
theorem Zpl : (Tryz.prog.info? 4).map (fun i => (i.zero, i.size, i.bytes)) = some (some (.bool false), 1, 1) := by kernel_rfl
theorem Zox (W : World) (base n : Nat) (hb : base ≤ W.heap.size) (hn : n ≤ 1000000) : Zfe (W.alloc (.cells (madeCells (Value.bool false).cells (n * 1)) 4)) base W.heap.size n (List.replicate n false) := by
 have h := Zol W base (Value.bool false).cells 1 n 4 hb (by omega)
 have e : (madeCells (Value.bool false).cells (n * 1)).toList = (List.replicate n false).flatMap Zoc := by
  rw [Ze3]
  refine List.ext_getElem (by simp [madeCells]) fun i h1 h2 => ?_
  simp [madeCells, Value.cells, Nat.mod_one]
 rw [e] at h
 exact ⟨by simp, h⟩
theorem Zn.keep {w w' : World} {base : Nat} {v : Value} {xs : List Int} (h : Zn w base v xs) {r : Option Nat} (hg : w.grownBy w' r) (hr : ∀ b, v.ownBlock = some b → r ≠ some b) : Zn w' base v xs :=
 Jl h fun b hb => hg.block b (Qo h hb).2 (fun e => hr b hb e.symm)
theorem Zn.lt {w : World} {base : Nat} {v : Value} {xs : List Int} (h : Zn w base v xs) {b : Nat} (hb : v.ownBlock = some b) : base ≤ b ∧ b < w.heap.size := Qo h hb
theorem Zpg (left : List Int) (got : List Bool) : next left got = -1 ∨ ∃ m : Nat, next left got = m ∧ m < left.length := by
 rcases Zgg left got left.length 0 (-1) (by omega) (Or.inl ⟨rfl, fun j hj => by omega⟩) with ⟨h, _⟩ | ⟨m, h1, h2, _⟩
 · exact .inl h
 exact .inr ⟨m, h1, h2⟩
theorem Zri {left : List Int} {n : Nat} {got : List Bool} {out : List Int} (ho : 0 < out.length) (h : next left got = -1) : Zdy left (n + 1) got out = Zdy left n got out := by
 rw [Zdy, if_pos ho]; simp only [h]; rw [if_neg (by decide)]
theorem Zro {left : List Int} {n m : Nat} {got : List Bool} {out : List Int} (ho : 0 < out.length) (h : next left got = m) : Zdy left (n + 1) got out = Zdy left n (got.set m true) (out.set m (out.getD m 0 + 1)) := by
 rw [Zdy, if_pos ho]; simp only [h]; rw [if_pos (by omega), Int.toNat_natCast]
def Zk2 (ws : List Int) (i : Nat) : List Int := List.replicate i 1 ++ ws.drop i
theorem Zsi {ws : List Int} {i : Nat} (h : i < ws.length) : (Zk2 ws i).set i 1 = Zk2 ws (i + 1) := by
 unfold Zk2
 rw [List.set_append_right _ _ (by simp), List.length_replicate, Nat.sub_self, List.drop_eq_getElem_cons h, List.set_cons_zero, ← List.replicate_append_replicate, List.append_assoc]
 rfl
theorem Zny {ws : List Int} {i : Nat} (h : i ≤ ws.length) : (Zk2 ws i).length = ws.length := by simp [Zk2]; omega
theorem Ztn (ws : List Int) : Zk2 ws ws.length = List.replicate ws.length 1 := by simp [Zk2]
structure Zbf (wc : World) (D n : Nat) (gl : List Bool) (wr : World) (u8 u9 : Value) (X Y : List Int) : Prop where
 b : Below wc.heap.size wc wr
 p : Zn wr D u8 X
 f : Zn wr D u9 Y
 g : Zfe wr D (D + 2) n gl
 n8 : u8.ownBlock ≠ some (D + 2)
 n9 : u9.ownBlock ≠ some (D + 2)
 apart : ∀ b, u8.ownBlock = some b → u9.ownBlock ≠ some b
theorem Zbf.alloc {wc wr : World} {D n : Nat} {gl : List Bool} {u8 u9 : Value} {X Y : List Int} (h : Zbf wc D n gl wr u8 u9 X Y) (o : Obj) : Zbf wc D n gl (wr.alloc o) u8 u9 X Y :=
 ⟨Zc h.b o, h.p.below (Zc (Zf _) _), h.f.below (Zc (Zf _) _), h.g.keep ((Zc (Zf wr) o).block _ h.g.lt), h.n8, h.n9, h.apart⟩
theorem Zbf.app8 {wc wr w' : World} {D n : Nat} {gl : List Bool} {u8 u9 v : Value} {X Y Z : List Int} (h : Zbf wc D n gl wr u8 u9 X Y) (hD : D = wc.heap.size) (h1 : Zn w' D v Z) (h2 : wr.grownBy w' u8.ownBlock) (h3 : ∀ b, v.ownBlock = some b → u8.ownBlock = some b ∨ wr.heap.size ≤ b) : Zbf wc D n gl w' v u9 Z Y :=
 ⟨h.b.trans (Qg h2 (by have := h.b.size; omega) (fun k hk => by have := (h.p.lt hk).1; omega)), h1, h.f.keep h2 (fun b hb e => h.apart b e hb), h.g.keep (h2.block _ h.g.lt (fun e => h.n8 e.symm)), fun e => by
  rcases h3 _ e with h4 | h4
  · exact h.n8 h4
  · have := h.g.lt; omega, h.n9, fun b hb e => by
  rcases h3 _ hb with h4 | h4
  · exact h.apart b h4 e
  have := (h.f.lt e).2; omega⟩
theorem Zbf.app9 {wc wr w' : World} {D n : Nat} {gl : List Bool} {u8 u9 v : Value} {X Y Z : List Int} (h : Zbf wc D n gl wr u8 u9 X Y) (hD : D = wc.heap.size) (h1 : Zn w' D v Z) (h2 : wr.grownBy w' u9.ownBlock) (h3 : ∀ b, v.ownBlock = some b → u9.ownBlock = some b ∨ wr.heap.size ≤ b) : Zbf wc D n gl w' u8 v X Z :=
 ⟨h.b.trans (Qg h2 (by have := h.b.size; omega) (fun k hk => by have := (h.f.lt hk).1; omega)), h.p.keep h2 (fun b hb e => h.apart b hb e), h1, h.g.keep (h2.block _ h.g.lt (fun e => h.n9 e.symm)), h.n8, fun e => by
  rcases h3 _ e with h4 | h4
  · exact h.n9 h4
  · have := h.g.lt; omega, fun b hb e => by
  rcases h3 _ e with h4 | h4
  · exact h.apart b hb h4
  have := (h.p.lt hb).2; omega⟩
theorem Zbf.drewN {wc wr : World} {D n : Nat} {gl : List Bool} {u8 u9 : Value} {X Y : List Int} (h : Zbf wc D n gl wr u8 u9 X Y) (q : Nat) : Zbf wc D n gl (wr.drewN q) u8 u9 X Y :=
 ⟨Zam h.b q, h.p.drewN q, h.f.drewN q, ⟨h.g.1, Zco h.g.2 q⟩, h.n8, h.n9, h.apart⟩
theorem Zbf.setG {wc wr : World} {D n : Nat} {gl : List Bool} {u8 u9 : Value} {X Y : List Int} (h : Zbf wc D n gl wr u8 u9 X Y) (hD : D = wc.heap.size) (j : Nat) (y : Bool) : Zbf wc D n (gl.set j y) (wr.setCell ⟨D + 2, j, none⟩ (.bool y)) u8 u9 X Y :=
 ⟨Yi h.b (by show wc.heap.size ≤ D + 2; omega) _, h.p.keep (Qt wr (g := D + 2) rfl _) (fun b hb e => by injection e with e; subst e; exact h.n8 hb), h.f.keep (Qt wr (g := D + 2) rfl _) (fun b hb e => by injection e with e; subst e; exact h.n9 hb), h.g.store j y, h.n8, h.n9, h.apart⟩
theorem Zbf.setP {wc wr : World} {D n g c m : Nat} {gl : List Bool} {u9 : Value} {X Y : List Int} (h : Zbf wc D n gl wr (.slice (some ⟨g, 0, none⟩) m c) u9 X Y) (hD : D = wc.heap.size) (j : Nat) (y : Int) : Zbf wc D n gl (wr.setCell ⟨g, j, none⟩ (.int .i64 y)) (.slice (some ⟨g, 0, none⟩) m c) u9 (X.set j y) Y :=
 ⟨Yi h.b (by have := (h.p.lt (b := g) rfl).1; show wc.heap.size ≤ g; omega) _, h.p.store j y, h.f.keep (Qt wr (g := g) rfl _) (fun b hb e => by injection e with e; subst e; exact h.apart g rfl hb), h.g.keep (Zak wr _ _ _ (fun e => h.n8 (by simp [Value.ownBlock]; exact e.symm))), h.n8, h.n9, h.apart⟩
theorem Zb4 {xs : List Int} {i : Nat} (h : i < xs.length) : xs.take i ++ [xs.getD i 0] = xs.take (i + 1) := by
 rw [List.take_succ_eq_append_getElem h, List.getD_eq_getElem?_getD, List.getElem?_eq_getElem h]; rfl
theorem Zdh (total : Int) (A : Option Addr) (c : Nat) (ws : List Int) (w : World) (hr : Rd Za4 w A ws) (h : Zoi total ws) (hn : 0 < ws.length) :
 Calls Tryz.prog 144 #[.int .i64 total, .slice A ws.length c] w (fun e w' => ∃ v, e = .returned v ∧ Zn w' w.heap.size v (Ye total ws) ∧ Below w.heap.size w w') := by
 obtain ⟨b, o, e, hlb, _⟩ := hr.2 (by intro e; rw [e] at hn; simp at hn)
 subst e
 have HR := Za hr
 have HI := Za h
 have hln := h.2.2
 obtain ⟨n, hnn⟩ : ∃ n, n = ws.length := ⟨_, rfl⟩
 have HN := Za hnn
 rw [← hnn] at hn hln ⊢
 clear hr h hnn
 obtain ⟨i0, hi, hz0, hz1, hz2⟩ := info_parts Yu
 go_enter Tryz.func144, Tryz.ntmps144
 go_upto_region 2 with (at_builtin; refine wpList_append_own _ rfl _ _ 29 rfl w.heap.size 3 i0 _ 1 8 Yl hi hz0 hz1 hz2 rfl (by decide) _ _ _ rfl (World.ownsRow_made w #[] 0 (Nat.le_refl _) (Nat.zero_le _) (by simp)) ⟨b, o, none⟩ n c (ws.flatMap Zc5) rfl ?qc1 ?qc2 ?qc3 ?qc4 ?qc5 ?qc6 ?_)
 case qc1 => rw [Zbh Zc5 1 (fun _ => rfl), HN.out]
 case qc2 => exact Zji HR.out (Zc (Zf _) _)
 case qc3 => exact Zhe ws
 case qc4 => unfold maxLen; omega
 case qc5 => omega
 case qc6 => simp
 intro v' w1 hown hgrow _
 have HB1 := Za (((Below.refl _ w).alloc (Nat.le_refl _) (.cells #[] 3)).grown hgrow (by simp) (by intro k hk; simp [Value.ownBlock] at hk; omega))
 have hO1 : Zn w1 w.heap.size v' ws := by
  unfold Zn; rw [← HN.out]; simpa using hown
 obtain ⟨g5, c5, rfl, hg1, hg2, _, _⟩ := hO1.at (by rw [← HN.out]; exact hn)
 rw [← HN.out]
 rw [← HN.out] at hO1
 have hS1 := Zay (some ⟨g5, 0, none⟩) c5 ws w1 hO1.at_rd (fun x hx => by have := HI.out.2.1 x hx; omega) (by have := HN.out; omega)
 rw [← HN.out] at hS1
 have HO1 := Za hO1
 generalize hsum : Zq ws = s at hS1
 have HS := Za hsum
 clear hsum hown hgrow hO1 hi hz0 hz1 hz2
 go_upto_if 19 with (go_at_call 96; refine hS1.mono ?_; rintro e w9 ⟨rfl, hw9⟩; obtain rfl := hw9.symm)
 clear hS1
 go_cut [6] from 19 to 28 (fun s6 wx => Below w.heap.size w wx ∧ Zn wx w.heap.size (.slice (some ⟨g5, 0, none⟩) n c5) (Zd0 ws))
 case first =>
  by_cases hz : s = 0
  ·
   have hz1 : (s == 0) = true := by simp [hz]
   have HO := Za (Zli (HS.out.trans hz))
   clear hz
   go_wp2_with fail
   go_loopg [6] n (fun gg s6 wr => ∃ i : Nat, s6 = .int .i64 i ∧ i ≤ n ∧ n - i ≤ gg ∧ Aside (Below w.heap.size w wr) ∧ Aside (Zn wr w.heap.size (.slice (some ⟨g5, 0, none⟩) n c5) (Zk2 ws i)))
   case atStart => exact ⟨0, rfl, Nat.zero_le _, by omega, HB1.out, (show Aside _ from by show Zn _ _ _ _; unfold Zk2; simpa using HO1.out)⟩
   obtain ⟨i, rfl, hin, hgg, BW, HM⟩ := hrel
   by_cases hlt : i < n
   ·
    have hltz : (i : Int) < (n : Int) := by omega
    have hml := Zny (ws := ws) (i := i) (by have := HN.out; omega)
    have c1 := HM.out.cell (j := i) (by rw [hml, ← HN.out]; exact hlt)
    have f1 := HM.out.frozen i
    have hst := HM.out.store i 1
    rw [Zsi (by have := HN.out; omega)] at hst
    generalize (Zk2 ws i).getD i 0 = y at c1
    have HST := Za hst
    clear hst hml
    go_wp2_with fail
    go_roundg (n - (i + 1))
    case measure => omega
    case rel => exact ⟨i + 1, by go_num, by omega, by omega, Yi BW.out (by show w.heap.size ≤ g5; omega) _, HST.out⟩
   have hltz : ¬ (i : Int) < (n : Int) := by omega
   have hi : i = n := by omega
   subst hi
   have hM := HM.out
   rw [HN.out, Ztn, ← HO.out, ← HN.out] at hM
   have HM2 := Za hM
   clear HM hM
   go_wp2_with fail
   go_meet
   case rel => exact ⟨BW.out, HM2.out⟩
  have hz1 : (s == 0) = false := by simp [hz]
  have HO := Za (Zmb (ws := ws) (by rw [HS.out]; exact hz))
  clear hz
  go_wp2_with fail
  go_meet
  case rel => exact ⟨HB1.out, by rw [HO.out]; exact HO1.out⟩
 case rest =>
 obtain ⟨hBc, hOc⟩ := hcut
 have hvl : (Zd0 ws).length = n := by rw [Zfq, HN.out]
 have hvb := Zq0 HI.out.2.1
 obtain ⟨hp1, _⟩ := Zjt (ws := ws) (fun x hx => (HI.out.2.1 x hx).1) (by intro e; have := HN.out; rw [e] at this; simp at this; omega)
 have HSH : Hid (Ye total ws = Zgr total (Zd0 ws)) := rfl
 have ht := HI.out.1
 generalize Zd0 ws = vs at hOc hvl hvb hp1 HSH
 have hsb := Zdl (B := 100000) hvb vs.length
 rw [List.take_length, hvl] at hsb
 have hS2 := Zay (some ⟨g5, 0, none⟩) c5 vs wc hOc.at_rd (fun x hx => by have := hvb x hx; omega) (by omega)
 rw [hvl] at hS2
 obtain ⟨S, hS⟩ : ∃ S, Zq vs = S := ⟨_, rfl⟩
 rw [hS] at hS2 hp1 hsb
 have hSle : S ≤ 100000000 := by have := hsb.2; omega
 have hmk := Zde (P := Tryz.prog) (z := .bool false) (k := 1) (bytes := 1) Zrs Zpl n (by omega) (by omega)
 have HBC := Za hBc
 have HOC := Za hOc
 have HSS := Za hS
 have HVL := Za hvl
 have HVB := Za hvb
 have hgc : g5 < wc.heap.size := (hOc.lt (b := g5) rfl).2
 clear hBc hOc hS hvl hvb hsb HR HI HB1 HO1
 go_upto_region 8 with (go_at_call 96; refine hS2.mono ?_; rintro e w9 ⟨rfl, hw9⟩; obtain rfl := hw9.symm)
 clear hS2
 go_wp2_with fail
 generalize hW3 : ((wc.alloc _).alloc _).alloc _ = W3
 obtain ⟨D, hD⟩ : ∃ D, D = wc.heap.size := ⟨_, rfl⟩
 have FW : Hid (Below wc.heap.size wc W3 ∧ Zn W3 D (.slice (some ⟨D, 0, none⟩) 0 0) [] ∧ Zn W3 D (.slice (some ⟨D + 1, 0, none⟩) 0 0) [] ∧ Zfe W3 D (D + 2) n (List.replicate n false)) := by
  subst hW3; subst hD
  have e1 : (wc.alloc (.cells #[] 3)).heap.size = wc.heap.size + 1 := by simp
  have e2 : ((wc.alloc (.cells #[] 3)).alloc (.cells #[] 3)).heap.size = wc.heap.size + 1 + 1 := by simp
  have m1 : Zn (wc.alloc (.cells #[] 3)) wc.heap.size (.slice (some ⟨wc.heap.size, 0, none⟩) 0 0) [] := World.ownsRow_made wc #[] 0 (Nat.le_refl _) (Nat.zero_le _) (by simp)
  have m2 : Zn ((wc.alloc (.cells #[] 3)).alloc (.cells #[] 3)) wc.heap.size (.slice (some ⟨(wc.alloc (.cells #[] 3)).heap.size, 0, none⟩) 0 0) [] := World.ownsRow_made (wc.alloc (.cells #[] 3)) #[] 0 (by rw [e1]; omega) (Nat.zero_le _) (by simp)
  rw [e1] at m2
  have m3 := Zox ((wc.alloc (.cells #[] 3)).alloc (.cells #[] 3)) wc.heap.size n (by rw [e2]; omega) (by omega)
  rw [Nat.mul_one, e2] at m3
  exact ⟨Zc (Zc (Zc (Zf _) _) _) _, (m1.below (Zc (Zf _) _)).below (Zc (Zf _) _), m2.below (Zc (Zf _) _), m3⟩
 rw [← hD]
 have hD2 : D + 1 + 1 = D + 2 := rfl
 rw [hD2]
 have HDD := Za hD
 have hgD : g5 < D := by omega
 clear hW3 hD hmk hD2 hgc
 have hpl : (Qc total S vs).length = n := by simp [Qc, HVL.out]
 have hll : (Jx total S vs).length = n := by simp [Jx, HVL.out]
 have HPL := Za hpl
 have HLL := Za hll
 clear hpl hll
 go_loopg [8, 9, 11] n (fun gg s8 s9 s11 wr => ∃ (i : Nat), s11 = .int .i64 i ∧ i ≤ n ∧ n - i ≤ gg ∧ Aside (Zbf wc D n (List.replicate n false) wr s8 s9 ((Qc total S vs).take i) ((Jx total S vs).take i)))
 case atStart => exact ⟨0, rfl, Nat.zero_le _, by omega, (show Aside _ from by
  show Zbf _ _ _ _ _ _ _ _ _
  rw [List.take_zero, List.take_zero]
  exact ⟨FW.out.1, FW.out.2.1, FW.out.2.2.1, FW.out.2.2.2, by simp [Value.ownBlock], by simp [Value.ownBlock], by intro b hb; simp [Value.ownBlock] at hb ⊢; omega⟩)⟩
 obtain ⟨i, rfl, hin, hgg, HT⟩ := hrel
 clear FW
 by_cases hlt : i < n
 ·
  have hltz : (i : Int) < (n : Int) := by omega
  have c0 := HOC.out.cell (j := i) (by rw [HVL.out]; exact hlt)
  have hp1' := Zh7 total S vs i
  have hl1' := Zkd total S vs i
  have hs1 := Zb4 (xs := Qc total S vs) (i := i) (by rw [HPL.out]; exact hlt)
  have hs2 := Zb4 (xs := Jx total S vs) (i := i) (by rw [HLL.out]; exact hlt)
  rw [hp1'] at hs1
  rw [hl1'] at hs2
  have hv := Yn HVB.out i (by rw [HVL.out]; exact hlt)
  generalize vs.getD i 0 = v at c0 hs1 hs2 hv
  have c1 := Zo HT.out.b c0
  have C0 := Za c0
  obtain ⟨m1, m2⟩ := Zgz ht hv
  have r1 : (total * v).tdiv S = total * v / S := Int.tdiv_eq_ediv_of_nonneg m1
  have r2 : (total * v).tmod S = total * v % S := Int.tmod_eq_emod_of_nonneg m1
  have u1 : 0 ≤ total * v / S := Int.ediv_nonneg m1 (by omega)
  have u2 : total * v / S ≤ total * v := Int.ediv_le_self _ m1
  have u3 := Int.emod_nonneg (total * v) (show S ≠ 0 by omega)
  have u4 := Int.emod_lt_of_pos (total * v) hp1
  have t1 := IntWalk.i64_in (total * v) (by omega)
  generalize hP : total * v = P at *
  have t2 : IntKind.i64.wrap (P.tdiv S) = P / S := by rw [r1, IntKind.wrap_i64]; omega
  have t3 : IntKind.i64.wrap (P.tmod S) = P.tmod S := by rw [r2, IntKind.wrap_i64]; omega
  have hs0 : (S == 0) = false := by rw [beq_eq_false_iff_ne]; omega
  have HPP := Za hP
  have HS1 := Za hs1
  rw [← r2] at hs2
  have HS2 := Za hs2
  have hil : ((Qc total S vs).take i).length ≤ 1000000 := by simp; omega
  have hil2 : ((Jx total S vs).take i).length ≤ 1000000 := by simp; omega
  have HIL := Za hil
  have HIL2 := Za hil2
  clear m1 m2 u1 u2 u3 u4 r1 r2 hv hs1 hs2 hp1' hl1' hil hil2 c0
  go_upto_region 15 with (at_builtin; refine Ji rfl (.tmp 42) (.tmp 51) rfl D u8 ((Qc total S vs).take i) rfl (HT.out.alloc _).p ⟨wr.heap.size, 0, none⟩ 1 (P / S) rfl (Zj _ _ _ _ 0 _ rfl) HIL.out (by have := HT.out.b.size; have := HDD.out; simp; omega) ?_)
  intro v8 w4 H1 H2 H3
  have HT2 := Za (Zbf.app8 (Z := (Qc total S vs).take (i + 1)) (HT.out.alloc (.cells #[.int .i64 (P / S)] 3)) HDD.out (by rw [← HS1.out]; exact H1.out) H2.out (by simpa using H3.out))
  have c2 := Zo HT2.out.b C0.out
  clear c1 HT H1 H2 H3
  go_wp2_with (at_builtin; refine Ji rfl (.tmp 53) (.tmp 62) rfl D u9 ((Jx total S vs).take i) rfl (HT2.out.alloc _).f ⟨w4.heap.size, 0, none⟩ 1 (P.tmod S) rfl (Zj _ _ _ _ 0 _ rfl) HIL2.out (by have := HT2.out.b.size; have := HDD.out; simp; omega) ?_)
  intro v9 w5 H1 H2 H3
  have HT3 := Za (Zbf.app9 (Z := (Jx total S vs).take (i + 1)) (HT2.out.alloc (.cells #[.int .i64 (P.tmod S)] 3)) HDD.out (by rw [← HS2.out]; exact H1.out) H2.out (by simpa using H3.out))
  clear c2 HT2 H1 H2 H3
  go_wp2_with fail
  go_roundg (n - (i + 1))
  case measure => omega
  case rel => exact ⟨i + 1, by go_num, by omega, by omega, HT3.out⟩
 have hltz : ¬ (i : Int) < (n : Int) := by omega
 have hi : i = n := by omega
 subst hi
 have hT := HT.out
 rw [List.take_of_length_le (by rw [HPL.out]; omega), List.take_of_length_le (by rw [HLL.out]; omega)] at hT
 obtain ⟨g8, c8, e8, h8a, h8b, _, _⟩ := hT.p.at (by rw [HPL.out]; exact hn)
 obtain ⟨g9, c9, e9, h9a, h9b, _, _⟩ := hT.f.at (by rw [HLL.out]; exact hn)
 subst e8
 subst e9
 rw [HPL.out] at hT ⊢
 rw [HLL.out] at hT ⊢
 have hpb : ∀ x ∈ Qc total S vs, 0 ≤ x ∧ x ≤ 1000000 := by
  intro x hx
  obtain ⟨y, hy, rfl⟩ := List.mem_map.1 hx
  have hv := HVB.out y hy
  obtain ⟨m1, m2⟩ := Zgz ht hv
  refine ⟨Int.ediv_nonneg m1 (by omega), ?_⟩
  have h1 := Zby (fun z hz => (HVB.out z hz).1) y hy
  rw [HSS.out] at h1
  have h2 : total * y ≤ total * S := Int.mul_le_mul_of_nonneg_left h1 ht.1
  have h3 : total * y / S ≤ total * S / S := Int.ediv_le_ediv hp1 h2
  rw [Int.mul_ediv_cancel _ (by omega)] at h3
  omega
 obtain ⟨rb1, rb2⟩ := Zc3 (total := total) (ws := vs) (by rw [HSS.out]; exact hp1)
 rw [HSS.out] at rb1 rb2
 rw [HVL.out] at rb2
 have hS3 := Zay (some ⟨g8, 0, none⟩) c8 (Qc total S vs) wr hT.p.at_rd hpb (by rw [HPL.out]; omega)
 rw [HPL.out] at hS3
 have hsw : Zgr total vs = Zdy (Jx total S vs) (total - Zq (Qc total S vs)).toNat (List.replicate i false) (Qc total S vs) := by
  unfold Zgr
  rw [HSS.out]
  congr 1
  rw [List.map_const', HVL.out]
 have hps0 := (Zdl (B := 1000000) hpb (Qc total S vs).length).1
 rw [List.take_length] at hps0
 generalize Zq (Qc total S vs) = ps at rb1 rb2 hsw hS3 hps0
 obtain ⟨r, hr⟩ := Int.eq_ofNat_of_zero_le (show 0 ≤ total - ps by omega)
 rw [hr, Int.toNat_natCast] at hsw
 have t1 : IntKind.i64.wrap (total - ps) = (r : Int) := by rw [IntKind.wrap_i64]; omega
 have hrl : r ≤ 100000 := by omega
 have HSW := Za (HSH.out.trans hsw)
 have HPB := Za hpb
 have HT2 := Za hT
 clear hsw hr rb1 rb2 hpb hps0 HT hT HSH
 go_upto_region 17 with (go_at_call 96; refine hS3.mono ?_; rintro e w9 ⟨rfl, hw9⟩; obtain rfl := hw9.symm)
 have HB0 := Za (fun x hx => ⟨(HPB.out x hx).1, by have := (HPB.out x hx).2; omega⟩ : ∀ x ∈ Qc total S vs, 0 ≤ x ∧ x ≤ 20000000 - (r : Int))
 go_loopg [12, 13] r (fun gg s12 s13 wr => ∃ (m : Nat) (gl : List Bool) (out : List Int), s12 = .int .i64 m ∧ m ≤ gg ∧ m ≤ 100000 ∧ Aside (Zbf wc D i gl wr (.slice (some ⟨g8, 0, none⟩) i c8) (.slice (some ⟨g9, 0, none⟩) i c9) out (Jx total S vs)) ∧ Aside (out.length = i ∧ gl.length = i) ∧ Aside (∀ x ∈ out, 0 ≤ x ∧ x ≤ 20000000 - (m : Int)) ∧ Aside (Zdy (Jx total S vs) m gl out = Ye total ws))
 case atStart => exact ⟨r, List.replicate i false, _, rfl, Nat.le_refl _, hrl, HT2.out, (show Aside _ from ⟨HPL.out, by simp⟩), HB0.out, HSW.out.symm⟩
 obtain ⟨m, gl, out, rfl, hgm, hml, HT, HLN, HBD, HH⟩ := hrel
 clear HT2 HB0 HSW HPB
 by_cases hm : 0 < m
 ·
  obtain ⟨m, rfl⟩ : ∃ m', m = m' + 1 := ⟨m - 1, by omega⟩
  have hmz : (0 : Int) < ((m + 1 : Nat) : Int) := by omega
  have hiz : (0 : Int) < (i : Int) := by omega
  have hnx := Zoa (some ⟨g9, 0, none⟩) c9 (some ⟨D + 2, 0, none⟩) i (Jx total S vs) gl wr HT.out.f.at_rd HT.out.g.rd (by rw [HLN.out.2, HLL.out]) (by rw [HLL.out]; omega)
  rw [HLL.out] at hnx
  have t1 : IntKind.i64.wrap (((m + 1 : Nat) : Int) - 1) = (m : Int) := by rw [IntKind.wrap_i64]; omega
  obtain ⟨mm, hmm⟩ : ∃ mm, mm = m + 1 := ⟨_, rfl⟩
  have hH := HH.out
  rcases Zpg (Jx total S vs) gl with hz | ⟨k, hz, hk⟩
  ·
   rw [Zri (by rw [HLN.out.1]; omega) hz] at hH
   rw [hz] at hnx
   rw [← hmm] at hmz t1 ⊢
   have HMM := Za hmm
   have HH2 := Za hH
   clear HH hH hz hmm
   go_wp2_with fail
   refine hnx.mono ?_
   rintro _ w' ⟨rfl, q, hw'⟩
   have HT3 := Za (HT.out.drewN q)
   rw [← hw'] at HT3
   clear hw' HT hnx
   go_wp2_with fail
   go_roundg m
   case measure => have := HMM.out; omega
   case rel => exact ⟨m, gl, out, rfl, Nat.le_refl _, by have := HMM.out; omega, HT3.out, HLN.out, (show Aside _ from fun x hx => ⟨(HBD.out x hx).1, by have := (HBD.out x hx).2; have := HMM.out; omega⟩), HH2.out⟩
  rw [HLL.out] at hk
  rw [Zro (by rw [HLN.out.1]; omega) hz] at hH
  rw [hz] at hnx
  rw [← hmm] at hmz t1 ⊢
  have HMM := Za hmm
  clear HH hz hmm
  go_wp2_with fail
  refine hnx.mono ?_
  rintro _ w' ⟨rfl, q, hw'⟩
  have hT3 := HT.out.drewN q
  rw [← hw'] at hT3
  have c1 := hT3.g.cell (j := k) hk
  have f1 := hT3.g.frozen k
  have c2 := hT3.p.cell (j := k) (by rw [HLN.out.1]; exact hk)
  have f2 := hT3.p.frozen k
  have hx := Yn HBD.out k (by rw [HLN.out.1]; exact hk)
  have HT4 := Za ((hT3.setG HDD.out k true).setP HDD.out k (out.getD k 0 + 1))
  have n1 : ¬ D + 2 = g8 := fun e => hT3.n8 (by simp [Value.ownBlock]; exact e.symm)
  have n2 : ¬ g8 = D + 2 := fun e => n1 e.symm
  have HBD2 : Hid (∀ x ∈ out.set k (out.getD k 0 + 1), 0 ≤ x ∧ x ≤ 20000000 - (m : Int)) := fun y hy => by
   have := HMM.out
   rcases List.mem_or_eq_of_mem_set hy with hy | rfl
   · have := HBD.out y hy; omega
   omega
  generalize gl.getD k false = bo at c1
  generalize hxx : out.getD k 0 = x at c2 hx hH HT4 HBD2
  have t2 := IntWalk.i64_in (x + 1) (by omega)
  have kz : (k : Int) < (i : Int) := by omega
  have HH2 := Za hH
  clear hw' HT hnx hT3 hx hH hxx
  go_wp2_with fail
  go_roundg m
  case measure => have := HMM.out; omega
  case rel => exact ⟨m, _, _, rfl, Nat.le_refl _, by have := HMM.out; omega, HT4.out, (show Aside _ from ⟨by rw [List.length_set]; exact HLN.out.1, by rw [List.length_set]; exact HLN.out.2⟩), HBD2.out, HH2.out⟩
 have hm0 : m = 0 := by omega
 subst hm0
 have hH := HH.out
 rw [Zdy] at hH
 have HH2 := Za hH
 clear HH hH
 go_wp2_with fail
 go_ret
 exact ⟨_, rfl, by rw [← HH2.out]; exact HT.out.p.base (by have := HDD.out; have := HBC.out.size; omega), step HBC.out HT.out.b⟩
structure Yp (K : Nat → Value → World → Prop) (n m : Nat) (dep : Nat → List Nat) (V : World) (R : World → Value → World → Prop) (st : Nat → Value) (l : Array Bool) (vs : Nat → Value) (W : World) : Prop where
 size : l.size = n
 closed : ∀ j, l.getD j false = true → ∀ e ∈ dep j, l.getD e false = true
 opened : l.getD m false = false → Below V.heap.size V W ∧ ∀ j, j < m → l.getD j false = true → K j (vs j) W
 done : l.getD m false = true → ∃ W1, Below V.heap.size V W1 ∧ (∀ j, j < m → l.getD j false = true → K j (vs j) W1) ∧ R W1 (vs m) W
 after : ∀ j, m < j → l.getD j false = true → vs j = vs m
 stale : l.getD m false = false → ∀ j, m < j → vs j = st j
def Yt (n m : Nat) (dep : Nat → List Nat) : Prop := ∀ L : Nat → Prop, (∀ j, L j → ∀ e ∈ dep j, L e) → m < n → L m → ∀ j, j < m → L j
def Yw (K : Nat → Value → World → Prop) : Prop := ∀ j v W W', K j v W → Below W.heap.size W W' → K j v W'
section
variable {K : Nat → Value → World → Prop} {n m : Nat} {dep : Nat → List Nat} {V : World} {R : World → Value → World → Prop} {st : Nat → Value} {l : Array Bool} {vs : Nat → Value} {W W' : World}
theorem Zap {l : Array Bool} {j : Nat} (h : l.getD j false = true) : j < l.size := by
 refine Nat.lt_of_not_le fun h9 => ?_
 simp [Array.getD, Nat.not_lt.2 h9] at h
theorem Yp.start : Yp K n m dep V R st (Array.replicate n false) st V :=
 ⟨by simp, fun j hj => by simp [Array.getD] at hj, fun _ => ⟨Zf V, fun j _ hj => by simp [Array.getD] at hj⟩, fun h => by simp [Array.getD] at h, fun j _ hj => by simp [Array.getD] at hj, fun _ _ _ => rfl⟩
theorem Yp.isopen (h : Yp K n m dep V R st l vs W) (hL : Yt n m dep) {i : Nat} (hi : i < n) (him : i ≤ m) (hl : l.getD i true = false) : l.getD m false = false := by
 cases h9 : l.getD m false with
 | false => rfl
 | true =>
  have hm : m < n := by have := Zap h9; rw [h.size] at this; exact this
  rcases Nat.lt_or_eq_of_le him with hlt | rfl
  · have := hL (fun j => l.getD j false = true) h.closed hm h9 i hlt
    rw [Qa (by rw [h.size]; exact hi) false true, hl] at this
    cases this
  rw [Qa (by rw [h.size]; exact hi) false true, hl] at h9; cases h9
theorem Yp.get (h : Yp K n m dep V R st l vs W) (hL : Yt n m dep) {i : Nat} (hi : i < n) (him : i ≤ m) (hl : l.getD i true = false) (j : Nat) (hjm : j < m) (hj : l.getD j false = true) : K j (vs j) W := (h.opened (h.isopen hL hi him hl)).2 j hjm hj
theorem Yp.below (h : Yp K n m dep V R st l vs W) (hL : Yt n m dep) {i : Nat} (hi : i < n) (him : i ≤ m) (hl : l.getD i true = false) : Below V.heap.size V W := (h.opened (h.isopen hL hi him hl)).1
theorem Yp.closed_set (h : Yp K n m dep V R st l vs W) (i : Nat) (hd : ∀ e ∈ dep i, l.getD e false = true) (hi : i < n) :
 ∀ j, (l.setIfInBounds i true).getD j false = true → ∀ e ∈ dep j, (l.setIfInBounds i true).getD e false = true := by
 intro j hj e he
 have hup : l.getD e false = true → (l.setIfInBounds i true).getD e false = true := fun h0 => by
  by_cases e1 : e = i
  · subst e1; simp [Array.getD, h.size, hi]
  rw [getD_set_ne false (Ne.symm e1)]; exact h0
 by_cases e2 : j = i
 · subst e2; exact hup (hd e he)
 rw [getD_set_ne false (Ne.symm e2)] at hj
 exact hup (h.closed j hj e he)
theorem Yp.next (h : Yp K n m dep V R st l vs W) (hL : Yt n m dep) (hS : Yw K) (i : Nat) (hi : i < n) (him : i < m) (hl : l.getD i true = false) (v : Value) (hd : ∀ e ∈ dep i, l.getD e false = true) (hb : Below W.heap.size W W') (hk : K i v W') :
 Yp K n m dep V R st (l.setIfInBounds i true) (Zd vs i v) W' := by
 have ho := h.isopen hL hi (Nat.le_of_lt him) hl
 obtain ⟨hB, hK⟩ := h.opened ho
 refine ⟨by simpa using h.size, h.closed_set i hd hi, fun _ => ⟨step hB hb, fun j hjm hj => ?_⟩, fun h9 => ?_, fun j hjm hj => ?_, fun h9 j hjm => ?_⟩
 ·
  unfold Zd
  by_cases e : j = i
  · subst e; rw [if_pos rfl]; exact hk
  rw [if_neg e]
  rw [getD_set_ne false (Ne.symm e)] at hj
  exact hS j _ _ _ (hK j hjm hj) hb
 · rw [getD_set_ne false (by omega), ho] at h9; cases h9
 · unfold Zd
   rw [if_neg (by omega), if_neg (by omega)]
   rw [getD_set_ne false (by omega)] at hj
   exact h.after j hjm hj
 unfold Zd
 rw [if_neg (by omega)]
 exact h.stale ho j hjm
theorem Yp.getStale (h : Yp K n m dep V R st l vs W) (hL : Yt n m dep) {i : Nat} (hi : i < n) (him : i ≤ m) (hl : l.getD i true = false) (j : Nat) (hj : m < j) : vs j = st j := h.stale (h.isopen hL hi him hl) j hj
theorem Yp.still (h : Yp K n m dep V R st l vs W) (hL : Yt n m dep) (hS : Yw K) (i : Nat) (hi : i < n) (him : i < m) (hl : l.getD i true = false) (v : Value) (hd : ∀ e ∈ dep i, l.getD e false = true) (hk : K i v W) :
 Yp K n m dep V R st (l.setIfInBounds i true) (Zd vs i v) W := h.next hL hS i hi him hl v hd (Zf W) hk
theorem Yp.last (h : Yp K n m dep V R st l vs W) (hL : Yt n m dep) (hm : m < n) (hl : l.getD m true = false) (hno : ∀ j, m < j → l.getD j false = true → m ∈ dep j) (v : Value) (hd : ∀ e ∈ dep m, l.getD e false = true) (hR : R W v W') :
 Yp K n m dep V R st (l.setIfInBounds m true) (Zd vs m v) W' := by
 have ho := h.isopen hL hm (Nat.le_refl m) hl
 obtain ⟨hB, hK⟩ := h.opened ho
 have hin : (l.setIfInBounds m true).getD m false = true := by simp [Array.getD, h.size, hm]
 refine ⟨by simpa using h.size, h.closed_set m hd hm, fun h9 => (by rw [hin] at h9; cases h9), fun _ => ⟨W, hB, fun j hj hj2 => ?_, ?_⟩, fun j hjm hj => ?_, fun h9 => (by rw [hin] at h9; cases h9)⟩
 · unfold Zd
   rw [if_neg (by omega)]
   rw [getD_set_ne false (by omega)] at hj2
   exact hK j hj hj2
 · unfold Zd
   rw [if_pos rfl]; exact hR
 rw [getD_set_ne false (by omega)] at hj
 have := h.closed j hj m (hno j hjm hj)
 rw [ho] at this; cases this
theorem Yp.post (h : Yp K n m dep V R st l vs W) (i : Nat) (hi : i < n) (him : m < i) (hlm : l.getD m false = true) (hd : ∀ e ∈ dep i, l.getD e false = true) :
 Yp K n m dep V R st (l.setIfInBounds i true) (Zd vs i (vs m)) W := by
 refine ⟨by simpa using h.size, h.closed_set i hd hi, fun h9 => ?_, fun _ => ?_, fun j hjm hj => ?_, fun h9 => (by rw [getD_set_ne false (by omega), hlm] at h9; cases h9)⟩
 · rw [getD_set_ne false (by omega), hlm] at h9; cases h9
 ·
  obtain ⟨W1, h1, h2, h3⟩ := h.done hlm
  refine ⟨W1, h1, fun j hj hj2 => ?_, ?_⟩
  · unfold Zd
    rw [if_neg (by omega)]
    rw [getD_set_ne false (by omega)] at hj2
    exact h2 j hj hj2
  unfold Zd
  rw [if_neg (by omega)]; exact h3
 unfold Zd
 rw [if_neg (show m ≠ i by omega)]
 by_cases e : j = i
 · rw [if_pos e]
 rw [if_neg e]
 rw [getD_set_ne false (Ne.symm e)] at hj
 exact h.after j hjm hj
theorem Yp.fin0 (h : Yp K n m dep V R st l vs W) (hm : n ≤ m) (hall : ∀ j, j < n → l.getD j true = true) : Below V.heap.size V W ∧ ∀ j, j < n → K j (vs j) W := by
 have ho : l.getD m false = false := by
  cases h9 : l.getD m false with
  | false => rfl
  | true => have := Zap h9; rw [h.size] at this; omega
 obtain ⟨hB, hK⟩ := h.opened ho
 exact ⟨hB, fun j hj => hK j (by omega) (by rw [Qa (by rw [h.size]; exact hj) false true]; exact hall j hj)⟩
theorem Yp.fin (h : Yp K n m dep V R st l vs W) (hm : m < n) (hall : ∀ j, j < n → l.getD j true = true) : ∃ W1, Below V.heap.size V W1 ∧ (∀ j, j < m → K j (vs j) W1) ∧ R W1 (vs m) W ∧ ∀ j, m < j → j < n → vs j = vs m := by
 have h9 := hall m hm
 rw [Qa (by rw [h.size]; exact hm) true false] at h9
 obtain ⟨W1, h1, h2, h3⟩ := h.done h9
 have hall2 : ∀ j, j < n → l.getD j false = true := fun j hj => by rw [Qa (by rw [h.size]; exact hj) false true]; exact hall j hj
 exact ⟨W1, h1, fun j hj => h2 j hj (hall2 j (by omega)), h3, fun j hj hjn => h.after j hj (hall2 j hjn)⟩
theorem Zgw (h : n ≤ m) : Yt n m dep := fun _ _ h1 => by omega
end
theorem Zky {w : World} {o : Oper} {a : Act} {K : Act → World → Prop} {Q : Exit → Act → World → Prop} (s x : Operand)
 (ho : o.op = .call { callee := .builtin .append, args := #[s, x], argTypes := #[29, 29] }) (base : Nat) (v : Value) (xs : List Int) (hs : a.eval s = v) (hown : Zn w base v xs)
 (ad : Addr) (c : Nat) (y : Int) (hx : a.eval x = .slice (some ad) 1 c) (hc : w.cell? ad = some (.int .i64 y)) (hn : xs.length ≤ 1000000) (hbase : base ≤ w.heap.size)
 (h : ∀ v' w', Zn w' base v' (xs ++ [y]) → w.grownBy w' v.ownBlock → K (a.put o.dst v') w') : o.wp Tryz.prog a w K Q := by
 obtain ⟨i0, hi, hz0, hz1, hz2⟩ := info_parts Yu
 refine wp_append_own w s x 29 ho base 3 i0 _ 1 8 Yl hi hz0 hz1 hz2 rfl (by decide) v xs.length (xs.flatMap Zc5) hs hown ad 1 c [.int .i64 y] hx rfl (fun j u hj => ?_) (fun u hu => by rw [List.mem_singleton.1 hu]; rfl) (by unfold maxLen; omega) (by omega) hbase fun v' w' h1 h2 _ => h v' w' (show Zn _ _ _ _ from ?_) h2
 · have : j = 0 := by have := (List.getElem?_eq_some_iff.1 hj).1; simp at this; omega
   subst this; simp at hj; subst hj
   obtain ⟨b, o, sp⟩ := ad
   simpa [Addr.add] using hc
 unfold Zn
 rw [List.length_append, List.flatMap_append]
 exact h1
theorem kf {KF f : Nat → Value → World → Prop} (h : KF = f) : ∀ j v W, KF j v W ↔ f j v W := fun _ _ _ => by rw [h]
theorem dpl {dep f : Nat → List Nat} (l : Array Bool) (h : Hid (dep = f)) (n : Nat) (h2 : ∀ e ∈ f n, l.getD e false = true) : ∀ e ∈ dep n, l.getD e false = true := by rw [h.out]; exact h2
theorem Zbo {n m : Nat} {dep f : Nat → List Nat} (h : dep = f) (c : ((List.range m).all fun j => (List.range (m + 1)).any fun i => decide (j < i) && (f i).contains j) = true) : Yt n m dep := by
  intro L hc _ hm
  have key : ∀ k j, j < m → m - j ≤ k → L j := by
    intro k
    induction k with
    | zero => intro j hj h; omega
    | succ k ih =>
      intro j hj hk
      have h1 := List.all_eq_true.1 c j (List.mem_range.2 hj)
      obtain ⟨i, hi, hi2⟩ := List.any_eq_true.1 h1
      have hi3 := List.mem_range.1 hi
      simp only [Bool.and_eq_true, decide_eq_true_eq, List.contains_iff_mem] at hi2
      have hLi : L i := by
        rcases Nat.lt_or_eq_of_le (Nat.le_of_lt_succ hi3) with h9 | rfl
        · exact ih i h9 (by omega)
        · exact hm
      exact hc i hLi j (by rw [h]; exact hi2.2)
  exact fun j hj => key m j hj (by omega)
theorem Zsd {K f : Nat → Value → World → Prop} {m : Nat} {l : Array Bool} {vs : Nat → Value} {W : World} {xs : Array Edge} (KK : Hid (∀ j v W, K j v W ↔ f j v W)) (h : ∀ j, j < m → l.getD j false = true → K j (vs j) W) (hp : ∀ e ∈ xs, Region.binds .any e = true → l.getD e.on false = true) (j : Nat) (c : (decide (j < m) && xs.toList.any fun x => x.on == j && Region.binds .any x) = true) : f j (vs j) W := (KK.out _ _ _).1 (h j (of_decide_eq_true (Bool.and_eq_true_iff.1 c).1) (Zce hp j (Bool.and_eq_true_iff.1 c).2))
theorem dpa {dep g : Nat → List Nat} {l : Array Bool} {xs : Array Edge} (DD : Hid (dep = g)) (hp : ∀ e ∈ xs, Region.binds .any e = true → l.getD e.on false = true) (i : Nat) (c : ((g i).all fun n => xs.toList.any fun x => x.on == n && Region.binds .any x) = true) : ∀ e ∈ dep i, l.getD e false = true := fun e he => Zce hp e (List.all_eq_true.1 c e (by rw [DD.out] at he; exact he))
theorem Yp.sti {K f : Nat → Value → World → Prop} {n m : Nat} {dep g : Nat → List Nat} {V : World} {R : World → Value → World → Prop} {st : Nat → Value} {l : Array Bool} {vs : Nat → Value} {W : World} {xs : Array Edge} (h : Yp K n m dep V R st l vs W) (hL : Yt n m dep) (hS : Yw K) (KK : Hid (∀ j v W, K j v W ↔ f j v W)) (DD : Hid (dep = g)) (hp : ∀ e ∈ xs, Region.binds .any e = true → l.getD e.on false = true) {i : Nat} (hi : i < n) (him : i < m) (hl : l.getD i true = false) (v : Value) (c : ((g i).all fun n => xs.toList.any fun x => x.on == n && Region.binds .any x) = true) (hk : f i v W) : Yp K n m dep V R st (l.setIfInBounds i true) (Zd vs i v) W :=
  h.still hL hS i hi him hl v (dpa DD hp i c) ((KK.out _ _ _).2 hk)
end Go.Proofs.YtgdmcmicfoamlaaGreatDoor
