import Derived.Test.YtgdmcmicfoamlaaGreatDoorMixW
import Derived.Test.YtgdmcmicfoamlaaGreatDoorMixSm
import Derived.BigRegion
import Derived.Shelf.RegionOpenPlain
import Derived.Deep.Cut
set_option linter.unusedVariables false
set_option linter.unusedSimpArgs false
set_option maxHeartbeats 8000000
set_option maxRecDepth 100000
namespace Go.Proofs.YtgdmcmicfoamlaaGreatDoor
open Go.RowKit
def Zc5 (x : Int) : List Value := [.int .i64 x]
def Za4 : Rep Int := Zg9 1 Zc5 (fun _ => rfl)
def Zn (w : World) (base : Nat) (v : Value) (xs : List Int) : Prop := w.ownsRow base 3 1 v xs.length (xs.flatMap Zc5)
theorem Znt (xs : List Int) (j : Nat) (h : j < xs.length) : (xs.flatMap Zc5)[j]? = some (.int .i64 xs[j]) := by
 have := Zd2 Zc5 1 (fun _ => rfl) xs j 0 (.int .i64 xs[j]) h rfl
 simpa using this
theorem Zfh (xs : List Int) : xs.flatMap Zc5 = xs.map (Value.int .i64) := by
 induction xs with
 | nil => rfl
 | cons x xs ih => rw [List.flatMap_cons, ih]; rfl
theorem Ztt (xs : List Int) (j : Nat) (y : Int) : (xs.set j y).flatMap Zc5 = (xs.flatMap Zc5).set j (.int .i64 y) := by
 rw [Zfh, Zfh, List.map_set]
theorem Zn.rd {w : World} {base : Nat} {v : Value} {xs : List Int} (h : Zn w base v xs) : Zml Za4 w v xs := Zdz h
theorem Zn.form {w : World} {base : Nat} {v : Value} {xs : List Int} (h : Zn w base v xs) : ∃ A c, v = .slice A xs.length c := Zbc h
theorem Zn.at {w : World} {base : Nat} {v : Value} {xs : List Int} (h : Zn w base v xs) (hn : 0 < xs.length) : ∃ g c, v = .slice (some ⟨g, 0, none⟩) xs.length c ∧ base ≤ g ∧ g < w.heap.size ∧ xs.length ≤ c ∧ c ≤ 9223372036854775807 := by
 rcases h.2 with ⟨_, h0⟩ | ⟨g, cap, cur, rfl, hb, hh, h1, h2, _⟩
 · omega
 exact ⟨g, cap, rfl, hb, (Array.getElem?_eq_some_iff.1 hh).1, h1, by simpa [maxLen] using h2⟩
theorem Zn.cell {w : World} {base g c n : Nat} {xs : List Int} (h : Zn w base (.slice (some ⟨g, 0, none⟩) n c) xs) (j : Nat) (hj : j < xs.length) : w.cell? ⟨g, j, none⟩ = some (.int .i64 (xs.getD j 0)) := by
 have hn : n = xs.length := by obtain ⟨_, _, e⟩ := h.form; injection e
 subst hn
 have := World.ownsRow.cellAt h j (by omega)
 rw [Znt xs j hj] at this
 rw [List.getD_eq_getElem?_getD, List.getElem?_eq_getElem hj]
 exact this
theorem Zn.frozen {w : World} {base g c n : Nat} {xs : List Int} (h : Zn w base (.slice (some ⟨g, 0, none⟩) n c) xs) (j : Nat) : w.frozen? ⟨g, j, none⟩ = false := by
 have hn : n = xs.length := by obtain ⟨_, _, e⟩ := h.form; injection e
 subst hn
 exact World.ownsRow.frozenAt h j
theorem Zn.store {w : World} {base g c n : Nat} {xs : List Int} (h : Zn w base (.slice (some ⟨g, 0, none⟩) n c) xs) (j : Nat) (y : Int) : Zn (w.setCell ⟨g, j, none⟩ (.int .i64 y)) base (.slice (some ⟨g, 0, none⟩) n c) (xs.set j y) := by
 have hn : n = xs.length := by obtain ⟨_, _, e⟩ := h.form; injection e
 subst hn
 unfold Zn
 rw [Ztt, List.length_set]
 exact (World.ownsRow.stored h j (.int .i64 y)).1
theorem Zn.below {w w' : World} {base : Nat} {v : Value} {xs : List Int} (h : Zn w base v xs) (hb : Below w.heap.size w w') : Zn w' base v xs := Qx h hb
theorem Zn.base {w : World} {base base' : Nat} {v : Value} {xs : List Int} (h : Zn w base v xs) (hb : base' ≤ base) : Zn w base' v xs := Jw h hb
theorem Zn.nil (w : World) (base : Nat) : Zn w base (.slice none 0 0) [] := ⟨rfl, .inl ⟨rfl, rfl⟩⟩
theorem Zkj {w : World} {b o : Nat} {s : Option Addr} {xs : List Int} (h : Rd Za4 w s xs) (hs : s = some ⟨b, o, none⟩) (a k : Nat) : Rd Za4 w (some ⟨b, o + a, none⟩) ((xs.drop a).take k) := by
 subst hs
 refine ⟨by have := h.1; simp; omega, fun hn => ?_⟩
 have hne : xs ≠ [] := by rintro rfl; simp at hn
 obtain ⟨b', o', e, hlt, hc⟩ := h.2 hne
 injection e with e; injection e with e1 e2; subst e1; subst e2
 refine ⟨b, o + a, rfl, hlt, fun j hj => ?_⟩
 have hj' : a + j < xs.length := by simp at hj; omega
 obtain ⟨cs, hK, hcell⟩ := hc (a + j) hj'
 have e : ((xs.drop a).take k)[j] = xs[a + j] := by simp [List.getElem_take, List.getElem_drop]
 rw [e]
 have hz : Za4.sz = 1 := rfl
 rw [hz] at hcell ⊢
 exact ⟨cs, hK, fun i u hu => by have := hcell i u hu; rw [← this]; congr 2; omega⟩
theorem Za3 {w W : World} {A : Option Addr} {xs : List Int} (h : Rd Za4 w A xs) (hb : Below w.heap.size w W) (k : Nat) (hk : k < xs.length) : ∃ b o, A = some ⟨b, o, none⟩ ∧ b < w.heap.size ∧ W.cell? ⟨b, o + k, none⟩ = some (.int .i64 (xs.getD k 0)) := by
 obtain ⟨b, o, c0, e, hlt, hK, hc⟩ := h.at1 rfl hb k hk
 have q : [c0] = [.int .i64 xs[k]] := hK
 simp only [List.cons.injEq, and_true] at q
 subst q
 exact ⟨b, o, e, hlt, by rw [hc, List.getD_eq_getElem?_getD, List.getElem?_eq_getElem hk]; rfl⟩
theorem Zl0 {w W : World} {r : Option Nat} (h : w.grownBy W r) : w.grownBy W.drew r := Zk h (Qd (Zt (Zf W)))
theorem Zgi {w W : World} {r : Option Nat} (h : w.grownBy W r) : ∀ q, w.grownBy (W.drewN q) r
 | 0 => h
 | q + 1 => by
  have := Zgi (Zl0 h) q
  rw [show q + 1 = 1 + q by omega]; simpa using this
theorem Zco {w : World} {base E k n : Nat} {v : Value} {xs : List Value} (h : w.ownsRow base E k v n xs) : ∀ q, (w.drewN q).ownsRow base E k v n xs
 | 0 => h
 | q + 1 => by
  have := Zco (Qx h (Zt (Zf w))) q
  rw [show q + 1 = 1 + q by omega]; simpa using this
def Zog (i : Nat) : Value := .int .i64 i
def Zi7 (w : World) (base g c n : Nat) (L : List Nat) : Prop := L.length = n ∧ w.ownsRow base 3 1 (.slice (some ⟨g, 0, none⟩) n c) n (L.map Zog)
def Zm1 (left : List Int) (x y : Nat) : Int := if left.getD y 0 < left.getD x 0 then -1 else if left.getD x 0 < left.getD y 0 then 1 else 0
theorem Zje (left : List Int) (x y : Nat) : Zm1 left x y < 0 ↔ ltL left x y := by
 unfold Zm1 ltL
 constructor
 ·
  intro h
  by_cases h1 : left.getD y 0 < left.getD x 0
  · exact h1
  rw [if_neg h1] at h
  split at h <;> omega
 intro h
 rw [if_pos h]; decide
def Zip (f : Nat) (lb : Array Value) (left : List Int) (n g : Nat) (w : World) : Prop :=
 ∀ (W : World) (x y : Nat), w.grownBy W (some g) → x < n → y < n → Calls Tryz.prog f (#[Zog x, Zog y] ++ lb) W fun e w' => e = .returned (.int .i64 (Zm1 left x y)) ∧ ∃ q, w' = W.drewN q
structure SSt (w : World) (base g c n : Nat) (W : World) (L : List Nat) : Prop where
 row : Zi7 W base g c n L
 grow : w.grownBy W (some g)
 lt : ∀ x ∈ L, x < n
section
variable {w W : World} {base g c n : Nat} {L : List Nat}
theorem SSt.cell (h : SSt w base g c n W L) {j : Nat} (hj : j < n) : W.cell? ⟨g, j, none⟩ = some (.int .i64 (L.getD j 0 : Nat)) := by
 have hl := h.row.1
 have := World.ownsRow.cellAt h.row.2 j (by omega)
 rw [this, List.getElem?_map, List.getElem?_eq_getElem (by omega), List.getD_eq_getElem?_getD, List.getElem?_eq_getElem (by omega)]
 rfl
theorem SSt.frozen (h : SSt w base g c n W L) (j : Nat) : W.frozen? ⟨g, j, none⟩ = false := World.ownsRow.frozenAt h.row.2 j
theorem SSt.get (h : SSt w base g c n W L) {j : Nat} (hj : j < n) : L.getD j 0 < n := by
 have hl := h.row.1
 rw [List.getD_eq_getElem?_getD, List.getElem?_eq_getElem (show j < L.length by omega)]
 exact h.lt _ (List.getElem_mem _)
theorem SSt.drewN (h : SSt w base g c n W L) (q : Nat) : SSt w base g c n (W.drewN q) L := ⟨⟨h.row.1, Zco h.row.2 q⟩, Zgi h.grow q, h.lt⟩
theorem SSt.drew (h : SSt w base g c n W L) : SSt w base g c n W.drew L := h.drewN 1
theorem Zuy {L : List Nat} {i j : Nat} (hi : i < L.length) (hj : j < L.length) : ∀ x ∈ swp L i j, x ∈ L := by
 intro x hx
 unfold swp at hx
 rcases List.mem_or_eq_of_mem_set hx with hx | rfl
 · rcases List.mem_or_eq_of_mem_set hx with hx | rfl
   · exact hx
   rw [List.getD_eq_getElem?_getD, List.getElem?_eq_getElem hj]; exact List.getElem_mem hj
 rw [List.getD_eq_getElem?_getD, List.getElem?_eq_getElem hi]; exact List.getElem_mem hi
theorem SSt.swap (h : SSt w base g c n W L) {i j : Nat} (hi : i < n) (hj : j < n) :
 SSt w base g c n ((W.setCell ⟨g, i, none⟩ (.int .i64 (L.getD j 0 : Nat))).setCell ⟨g, j, none⟩ (.int .i64 (L.getD i 0 : Nat))) (swp L i j) := by
 have hl := h.row.1
 refine ⟨⟨by rw [Zpc]; exact hl, ?_⟩, Zk h.grow (Zk (Qt _ rfl _) (Qt _ rfl _)), fun x hx => h.lt x (Zuy (by omega) (by omega) x hx)⟩
 have h1 := (World.ownsRow.stored h.row.2 i (Zog (L.getD j 0))).1
 have h2 := (World.ownsRow.stored h1 j (Zog (L.getD i 0))).1
 unfold swp
 rw [List.map_set, List.map_set]
 exact h2
end
theorem Zki (w0 : World) (base g c n : Nat) (cmp : Value) (a b k : Nat) (W : World) (L : List Nat) (h : SSt w0 base g c n W L) (ha : a + k ≤ n) (hb : b + k ≤ n) (hab : a < b) (hn : n ≤ 1000000) :
 Calls Tryz.prog 259 #[.slice (some ⟨g, 0, none⟩) n c, .int .i64 a, .int .i64 b, .int .i64 k, cmp] W fun e w' => e = .returned (.tuple #[]) ∧ SSt w0 base g c n w' (Zfi L a b k) := by
 have H0 := Za h
 clear h
 go_enter Tryz.func259, Tryz.ntmps259
 go_wp2_with fail
 go_loopg [10] k (fun gg s10 wr => ∃ i : Nat, i ≤ k ∧ k - i ≤ gg ∧ s10 = .int .i64 i ∧ Aside (SSt w0 base g c n wr (Zfi L a b i)))
 case atStart => exact ⟨0, Nat.zero_le _, by omega, rfl, H0.out⟩
 obtain ⟨i, hi, hg, rfl, HS⟩ := hrel
 by_cases hlt : i < k
 ·
  have hltz : (i : Int) < (k : Int) := by omega
  obtain ⟨M, hM⟩ : ∃ M, M = Zfi L a b i := ⟨_, rfl⟩
  have HS1 := HS.out
  rw [← hM] at HS1
  have ca := HS1.cell (j := a + i) (by omega)
  have cb := HS1.cell (j := b + i) (by omega)
  have fa := HS1.frozen (a + i)
  have fb := HS1.frozen (b + i)
  have t1 : IntKind.i64.wrap ((a : Int) + (i : Int)) = ((a + i : Nat) : Int) := by rw [IntKind.wrap_i64]; omega
  have t2 : IntKind.i64.wrap ((b : Int) + (i : Int)) = ((b + i : Nat) : Int) := by rw [IntKind.wrap_i64]; omega
  have z1 : ((a + i : Nat) : Int) < (n : Int) := by omega
  have z2 : ((b + i : Nat) : Int) < (n : Int) := by omega
  obtain ⟨x, hx⟩ : ∃ x, M.getD (a + i) 0 = x := ⟨_, rfl⟩
  obtain ⟨y, hy⟩ : ∃ y, M.getD (b + i) 0 = y := ⟨_, rfl⟩
  rw [hx] at ca
  rw [hy] at cb
  have HSN := (HS1.swap (i := a + i) (j := b + i) (by omega) (by omega)).drew
  rw [hx, hy] at HSN
  have HSH : Hid (SSt w0 base g c n ((wr.setCell ⟨g, a + i, none⟩ (.int .i64 y)).setCell ⟨g, b + i, none⟩ (.int .i64 x)).drew (swp M (a + i) (b + i))) := HSN
  have HM := Za hM
  clear HSN HS1 hx hy hM
  obtain ⟨p, hp⟩ : ∃ p, p = a + i := ⟨_, rfl⟩
  obtain ⟨q, hq⟩ : ∃ q, q = b + i := ⟨_, rfl⟩
  rw [← hp] at ca fa t1 z1 HSH
  rw [← hq] at cb fb t2 z2 HSH
  have n1 : ¬ p = q := by omega
  have n2 : ¬ q = p := by omega
  have HP := Za hp
  have HQ := Za hq
  clear hp hq
  go_wp2_with fail
  go_big_region
  go_wp2_with fail
  go_roundg (k - (i + 1))
  case measure => omega
  case rel => exact ⟨i + 1, by omega, by omega, by go_num, (show Aside _ from by have := HSH.out; rw [HP.out, HQ.out, HM.out] at this; rw [HP.out, HQ.out]; exact this)⟩
 have hltz : ¬ (i : Int) < (k : Int) := by omega
 have hik := Za (show i = k by omega)
 go_wp2_with fail
 go_end0
 exact ⟨rfl, by rw [← hik.out]; exact HS.out⟩
theorem Zug (w0 : World) (base g c n : Nat) (cmp : Value) (a m b : Nat) (W : World) (L : List Nat) (h : SSt w0 base g c n W L) (ha : a < m) (hb : m < b) (hbn : b ≤ n) (hn : n ≤ 1000000) :
 Calls Tryz.prog 256 #[.slice (some ⟨g, 0, none⟩) n c, .int .i64 a, .int .i64 m, .int .i64 b, cmp] W fun e w' => e = .returned (.tuple #[]) ∧ SSt w0 base g c n w' (Zj3 a m b L) := by
 have H0 := Za h
 clear h
 have t1 : IntKind.i64.wrap ((m : Int) - (a : Int)) = ((m - a : Nat) : Int) := by rw [IntKind.wrap_i64]; omega
 have t2 : IntKind.i64.wrap ((b : Int) - (m : Int)) = ((b - m : Nat) : Int) := by rw [IntKind.wrap_i64]; omega
 go_enter Tryz.func256, Tryz.ntmps256
 go_wp2_with fail
 go_loopg [10, 11] (b - a) (fun gg s10 s11 wr => ∃ (i j fu : Nat) (M : List Nat), s10 = .int .i64 i ∧ s11 = .int .i64 j ∧ 0 < i ∧ 0 < j ∧ i ≤ m ∧ m + j ≤ n ∧ i + j ≤ fu ∧ fu ≤ gg ∧ Aside (SSt w0 base g c n wr M) ∧ Aside (Zp6 m fu i j M = Zj3 a m b L))
 case atStart => exact ⟨m - a, b - m, b - a, L, rfl, rfl, by omega, by omega, by omega, by omega, by omega, Nat.le_refl _, H0.out, (show Aside _ from rfl)⟩
 obtain ⟨i, j, fu, M, rfl, rfl, hi, hj, him, hjn, hg, hfg, HS, HR⟩ := hrel
 clear t1 t2
 obtain ⟨f, rfl⟩ : ∃ f, fu = f + 1 := ⟨fu - 1, by omega⟩
 have HR' := HR.out
 rw [Zp6] at HR'
 have t1 : IntKind.i64.wrap ((m : Int) - (i : Int)) = ((m - i : Nat) : Int) := by rw [IntKind.wrap_i64]; omega
 by_cases hij : i = j
 ·
  subst hij
  rw [if_pos rfl] at HR'
  have HR2 := Za HR'
  have hS := Zki w0 base g c n cmp (m - i) m i wr M HS.out (by omega) (by omega) (by omega) hn
  clear HR' HR
  go_wp2_with fail
  refine hS.mono ?_
  rintro e w' ⟨rfl, HS'⟩
  go_wp2_with fail
  go_end0
  exact ⟨rfl, by rw [← HR2.out]; exact HS'⟩
 have hijz : ¬ (i : Int) = (j : Int) := by omega
 rw [if_neg hij] at HR'
 by_cases hlt : j < i
 ·
  have hltz : (j : Int) < (i : Int) := by omega
  rw [if_pos hlt] at HR'
  have HR2 := Za HR'
  have t2 : IntKind.i64.wrap ((i : Int) - (j : Int)) = ((i - j : Nat) : Int) := by rw [IntKind.wrap_i64]; omega
  have hS := Zki w0 base g c n cmp (m - i) m j wr M HS.out (by omega) (by omega) (by omega) hn
  clear HR' HR
  go_wp2_with fail
  refine hS.mono ?_
  rintro e w' ⟨rfl, HS'⟩
  have HS2 := Za HS'
  clear HS' hS
  go_wp2_with fail
  go_roundg f
  case measure => omega
  case rel => exact ⟨i - j, j, f, _, rfl, rfl, by omega, by omega, by omega, by omega, by omega, Nat.le_refl _, HS2.out, HR2.out⟩
 have hltz : ¬ (j : Int) < (i : Int) := by omega
 rw [if_neg hlt] at HR'
 have HR2 := Za HR'
 have t2 : IntKind.i64.wrap ((j : Int) - (i : Int)) = ((j - i : Nat) : Int) := by rw [IntKind.wrap_i64]; omega
 obtain ⟨u, hu⟩ : ∃ u, u = m + j := ⟨_, rfl⟩
 obtain ⟨v, hv⟩ : ∃ v, v = m + j - i := ⟨_, rfl⟩
 have t3 : IntKind.i64.wrap ((m : Int) + (j : Int)) = (u : Int) := by rw [IntKind.wrap_i64]; omega
 have t4 : IntKind.i64.wrap ((u : Int) - (i : Int)) = (v : Int) := by rw [IntKind.wrap_i64]; omega
 rw [← hv] at HR2
 have hS := Zki w0 base g c n cmp (m - i) v i wr M HS.out (by omega) (by omega) (by omega) hn
 have HU := Za hu
 have HV := Za hv
 clear hu hv
 clear HR' HR
 go_wp2_with fail
 refine hS.mono ?_
 rintro e w' ⟨rfl, HS'⟩
 have HS2 := Za HS'
 clear HS' hS
 go_wp2_with fail
 go_roundg f
 case measure => omega
 case rel => exact ⟨i, j - i, f, _, rfl, rfl, by omega, by omega, by omega, by omega, by omega, Nat.le_refl _, HS2.out, HR2.out⟩
theorem Ztw {left : List Int} {a j : Nat} {L : List Nat} (h : a < j + 1) (hl : ltL left (L.getD (j + 1) 0) (L.getD j 0)) : Zc9 left a (j + 1) L = Zc9 left a j (swp L (j + 1) j) := by rw [Zc9, if_pos ⟨h, hl⟩]
theorem Zp7 {left : List Int} {a j : Nat} {L : List Nat} (hl : ¬ ltL left (L.getD (j + 1) 0) (L.getD j 0)) : Zc9 left a (j + 1) L = L := by rw [Zc9, if_neg (fun h => hl h.2)]
theorem Zr2 {left : List Int} {a j : Nat} {L : List Nat} (h : j ≤ a) : Zc9 left a j L = L := by
 cases j with
 | zero => rfl
 | succ j => rw [Zc9, if_neg (fun h' => by omega)]
theorem Zr9 {left : List Int} {a b i : Nat} {L : List Nat} (h : i < b) : Zc6 left a (b - i) i L = Zc6 left a (b - (i + 1)) (i + 1) (Zc9 left a i L) := by
 rw [show b - i = (b - (i + 1)) + 1 by omega, Zc6]
theorem Zo0 {left : List Int} {a b i : Nat} {L : List Nat} (h : ¬ i < b) : Zc6 left a (b - i) i L = L := by
 rw [show b - i = 0 by omega, Zc6]
theorem Zui (w0 : World) (base g c n : Nat) (f : Nat) (lb : Array Value) (left : List Int) (eg : ∀ args w, (callFunc f args).run Tryz.prog w = .ok (.enter f args) w) (hc : Zip f lb left n g w0) (a b : Nat) (W : World) (L : List Nat)
 (h : SSt w0 base g c n W L) (hab : a ≤ b) (hbn : b ≤ n) (hn : n ≤ 1000000) :
 Calls Tryz.prog 248 #[.slice (some ⟨g, 0, none⟩) n c, .int .i64 a, .int .i64 b, .func (.func f) #[] lb] W fun e w' => e = .returned (.tuple #[]) ∧ SSt w0 base g c n w' (Zdd left a b L) := by
 have H0 := Za h
 have HC := Za hc
 clear h hc
 go_enter Tryz.func248, Tryz.ntmps248
 go_wp2_with fail
 go_loopg [8] (b - a) (fun gg s8 wr => ∃ (i : Nat) (M : List Nat), s8 = .int .i64 i ∧ a < i ∧ i ≤ b + 1 ∧ b - i ≤ gg ∧ Aside (SSt w0 base g c n wr M) ∧ Aside (Zc6 left a (b - i) i M = Zdd left a b L))
 case atStart => exact ⟨a + 1, L, by go_num, by omega, by omega, by omega, H0.out, (show Aside _ from rfl)⟩
 obtain ⟨i, M, rfl, hai, hib, hg, HS, HO⟩ := hrel
 by_cases hlt : i < b
 ·
  have hltz : (i : Int) < (b : Int) := by omega
  have HO1 := HO.out
  rw [Zr9 hlt] at HO1
  have HO2 := Za HO1
  clear HO HO1
  go_wp2_with fail
  go_loopg [9] i (fun g2 s9 wr2 => ∃ (j : Nat) (N : List Nat), s9 = .int .i64 j ∧ a ≤ j ∧ j ≤ i ∧ j ≤ g2 ∧ Aside (SSt w0 base g c n wr2 N) ∧ Aside (Zc9 left a j N = Zc9 left a i M))
  case atStart => exact ⟨i, M, rfl, by omega, Nat.le_refl _, Nat.le_refl _, HS.out, (show Aside _ from rfl)⟩
  obtain ⟨j, N, rfl, haj, hji, hg2, HT, HI⟩ := hrel
  by_cases hja : a < j
  ·
   obtain ⟨jp, rfl⟩ : ∃ jp, j = jp + 1 := ⟨j - 1, by omega⟩
   have HT1 := HT.out
   have ca := HT1.cell (j := jp + 1) (by omega)
   have cb := HT1.cell (j := jp) (by omega)
   have fa := HT1.frozen (jp + 1)
   have fb := HT1.frozen jp
   have hx1 := HT1.get (j := jp + 1) (by omega)
   have hy1 := HT1.get (j := jp) (by omega)
   have hcall := fun q => HC.out (wr.drewN q) _ _ (HT1.drewN q).grow hx1 hy1
   have hltl := Zje left (N.getD (jp + 1) 0) (N.getD jp 0)
   have hsw := fun q => ((HT1.drewN q).swap (i := jp + 1) (j := jp) (by omega) (by omega)).drew
   have HN1 := fun (hl : ltL left (N.getD (jp + 1) 0) (N.getD jp 0)) => Ztw (a := a) (L := N) hja hl
   have HN2 := fun (hl : ¬ ltL left (N.getD (jp + 1) 0) (N.getD jp 0)) => Zp7 (a := a) (L := N) hl
   generalize N.getD (jp + 1) 0 = x at ca hcall hltl hsw HN1 HN2
   generalize N.getD jp 0 = y at cb hcall hltl hsw HN1 HN2
   generalize hcz : Zm1 left x y = cz at hcall hltl
   obtain ⟨j1, hj1⟩ : ∃ j1, j1 = jp + 1 := ⟨_, rfl⟩
   have e0 : ((jp : Int) + 1) = (j1 : Int) := by omega
   have t1 : IntKind.i64.wrap ((j1 : Int) - 1) = (jp : Int) := by rw [IntKind.wrap_i64]; omega
   have z1 : (j1 : Int) < (n : Int) := by omega
   have z2 : (jp : Int) < (n : Int) := by omega
   have hjaz : (a : Int) < (j1 : Int) := by omega
   have n1 : ¬ j1 = jp := by omega
   have n2 : ¬ jp = j1 := by omega
   rw [← hj1] at ca fa hsw HN1 HN2 HI ⊢
   have J1 := Za hj1
   have HSW : Hid (∀ q, SSt w0 base g c n (((wr.drewN q).setCell ⟨g, j1, none⟩ (.int .i64 y)).setCell ⟨g, jp, none⟩ (.int .i64 x)).drew (swp N j1 jp)) := hsw
   clear hsw hj1 HT1 e0
   have HN1 := Za HN1
   have HN2 := Za HN2
   by_cases hlv : cz < 0
   ·
    have HLL := Za (hltl.1 hlv)
    clear hltl hcz
    go_wp2_with fail
    go_quiet (first | (go_at_fn f; refine Calls.quiet_of (hcall _)))
    go_wp2_with fail
    have ca2 : (wr.drewN nq).cell? ⟨g, j1, none⟩ = some (.int .i64 (x : Int)) := ca
    have cb2 : (wr.drewN nq).cell? ⟨g, jp, none⟩ = some (.int .i64 (y : Int)) := cb
    have fa2 : (wr.drewN nq).frozen? ⟨g, j1, none⟩ = false := fa
    have fb2 : (wr.drewN nq).frozen? ⟨g, jp, none⟩ = false := fb
    have HS2 := Za (HSW.out nq)
    clear ca cb fa fb hcall HSW
    generalize wr.drewN nq = wq at ca2 cb2 fa2 fb2 HS2 ⊢
    go_big_region
    go_wp2_with fail
    go_roundg jp
    case measure => omega
    case rel => exact ⟨jp, _, by first | rfl | go_num, by omega, by omega, Nat.le_refl _, HS2.out, (show Aside _ from (HN1.out HLL.out).symm.trans HI.out)⟩
   have HLL := Za (fun hl => hlv (hltl.2 hl))
   clear hltl hcz
   go_wp2_with fail
   go_quiet (first | (go_at_fn f; refine Calls.quiet_of (hcall _)))
   go_wp2_with fail
   go_roundg (b - (i + 1))
   case measure => omega
   case rel => exact ⟨i + 1, N, by go_num, by omega, by omega, by omega, HT.out.drewN _, (show Aside _ from by
    have h1 := HO2.out
    rw [← HI.out, HN2.out HLL.out] at h1
    exact h1)⟩
  have hjaz : decide ((j : Int) > (a : Int)) = false := decide_eq_false (by omega)
  have hjaz' : ¬ (a : Int) < (j : Int) := by omega
  go_wp2_with fail
  go_quiet (fail)
  go_wp2_with fail
  go_roundg (b - (i + 1))
  case measure => omega
  case rel => exact ⟨i + 1, N, by go_num, by omega, by omega, by omega, HT.out.drewN _, (show Aside _ from by
   have h1 := HO2.out
   rw [← HI.out, Zr2 (by omega)] at h1
   exact h1)⟩
 have hltz : ¬ (i : Int) < (b : Int) := by omega
 have hh := HO.out
 rw [Zo0 hlt] at hh
 have HH := Za hh
 clear HO hh
 go_wp2_with fail
 go_end0
 exact ⟨rfl, by rw [← HH.out]; exact HS.out⟩
theorem Zpw {p : Nat → Bool} {f i j : Nat} (h : i < j) (hp : p ((i + j) / 2) = true) : bs p (f + 1) i j = bs p f ((i + j) / 2 + 1) j := by rw [bs, if_pos h, if_pos hp]
theorem Ztc {p : Nat → Bool} {f i j : Nat} (h : i < j) (hp : p ((i + j) / 2) = false) : bs p (f + 1) i j = bs p f i ((i + j) / 2) := by rw [bs, if_pos h, if_neg (by simp [hp])]
theorem Zo6 {p : Nat → Bool} {f i j : Nat} (h : ¬ i < j) : bs p f i j = i := by
 cases f with
 | zero => rfl
 | succ f => rw [bs, if_neg h]
theorem Zuq (w0 : World) (base g c n : Nat) (f : Nat) (lb : Array Value) (left : List Int) (eg : ∀ args w, (callFunc f args).run Tryz.prog w = .ok (.enter f args) w) (hc : Zip f lb left n g w0) (fu a m b : Nat) (W : World) (L : List Nat)
 (h : SSt w0 base g c n W L) (ham : a < m) (hmb : m < b) (hbn : b ≤ n) (hn : n ≤ 1000000) (h1 : m - a = 1) :
 Calls Tryz.prog 249 #[.slice (some ⟨g, 0, none⟩) n c, .int .i64 a, .int .i64 m, .int .i64 b, .func (.func f) #[] lb] W (fun e w' => e = .returned (.tuple #[]) ∧ SSt w0 base g c n w' (Zcn left (fu + 1) a m b L)) := by
 have H0 := Za h
 have HC := Za hc
 have HD : Hid (Zcn left (fu + 1) a m b L = shR L a (bs (Zlg left a L) (b - m) m b - 1 - a)) := by show Zcn _ _ _ _ _ _ = _; rw [Zcn, if_pos h1]
 rw [HD.out]
 clear h hc
 have t0 : IntKind.i64.wrap ((m : Int) - (a : Int)) = 1 := by rw [IntKind.wrap_i64]; omega
 go_enter Tryz.func249, Tryz.ntmps249
 go_wp2_with fail
 go_loopg [10, 11] (b - m) (fun gg s10 s11 wr => ∃ (i j fv : Nat), s10 = .int .i64 i ∧ s11 = .int .i64 j ∧ m ≤ i ∧ i ≤ j ∧ j ≤ b ∧ j - i ≤ fv ∧ fv ≤ gg ∧ Aside (SSt w0 base g c n wr L) ∧ Aside (bs (Zlg left a L) fv i j = bs (Zlg left a L) (b - m) m b))
 case atStart => exact ⟨m, b, b - m, rfl, rfl, by omega, by omega, by omega, by omega, Nat.le_refl _, H0.out, (show Aside _ from rfl)⟩
 obtain ⟨i, j, fv, rfl, rfl, hi, hij, hj, hfv, hg, HS, HB⟩ := hrel
 by_cases hlt : i < j
 ·
  have hltz : (i : Int) < (j : Int) := by omega
  obtain ⟨fv, rfl⟩ : ∃ f', fv = f' + 1 := ⟨fv - 1, by omega⟩
  obtain ⟨h, hh⟩ : ∃ h, h = (i + j) / 2 := ⟨_, rfl⟩
  have HY := fun hp => Zpw (p := Zlg left a L) (f := fv) hlt hp
  have HN := fun hp => Ztc (p := Zlg left a L) (f := fv) hlt hp
  rw [← hh] at HY HN
  have hpd : Zlg left a L h = decide (ltL left (L.getD h 0) (L.getD a 0)) := rfl
  have ch := HS.out.cell (j := h) (by omega)
  have ca := HS.out.cell (j := a) (by omega)
  have hx := HS.out.get (j := h) (by omega)
  have hy := HS.out.get (j := a) (by omega)
  have hcall := fun q => HC.out (wr.drewN q) _ _ (HS.out.drewN q).grow hx hy
  have hltl := Zje left (L.getD h 0) (L.getD a 0)
  rw [Bool.eq_iff_iff, decide_eq_true_iff, ← hltl] at hpd
  generalize L.getD h 0 = x at ch hcall hpd
  generalize L.getD a 0 = y at ca hcall hpd
  generalize Zm1 left x y = cz at hcall hpd
  clear hltl hx hy
  obtain ⟨u, hu⟩ : ∃ u, u = i + j := ⟨_, rfl⟩
  have t1 : IntKind.i64.wrap ((i : Int) + (j : Int)) = (u : Int) := by rw [IntKind.wrap_i64]; omega
  have t2 : IntKind.u64.wrap (u : Int) = (u : Int) := by rw [IntKind.wrap_u64]; omega
  have t3 : IntKind.i64.wrap ((u : Int) / 2) = (h : Int) := by rw [IntKind.wrap_i64]; omega
  have t4 : IntKind.i64.wrap ((h : Int) + 1) = ((h + 1 : Nat) : Int) := by rw [IntKind.wrap_i64]; omega
  have z1 : (h : Int) < (n : Int) := by omega
  have z2 : (a : Int) < (n : Int) := by omega
  have HH := Za hh
  have HU := Za hu
  have HY := Za HY
  have HN := Za HN
  have HPD := Za hpd
  clear hh hu hpd
  go_wp2_with fail
  by_cases hlv : cz < 0
  ·
   have HP := Za (HY.out (HPD.out.2 hlv))
   clear HY HN HPD
   go_quiet (first | (go_at_fn f; refine Calls.quiet_of (hcall _)))
   go_wp2_with fail
   go_roundg fv
   case measure => omega
   case rel => exact ⟨h + 1, j, fv, by first | rfl | go_num, rfl, by have := HH.out; omega, by have := HH.out; omega, by omega, by have := HH.out; omega, Nat.le_refl _, HS.out.drewN _, (show Aside _ from HP.out.symm.trans HB.out)⟩
  have HP := Za (HN.out (by rw [Bool.eq_false_iff]; exact fun e => hlv (HPD.out.1 e)))
  clear HY HN HPD
  go_quiet (first | (go_at_fn f; refine Calls.quiet_of (hcall _)))
  go_wp2_with fail
  go_roundg fv
  case measure => omega
  case rel => exact ⟨i, h, fv, rfl, rfl, by omega, by have := HH.out; omega, by have := HH.out; omega, by have := HH.out; omega, Nat.le_refl _, HS.out.drewN _, (show Aside _ from HP.out.symm.trans HB.out)⟩
 have hltz : ¬ (i : Int) < (j : Int) := by omega
 have hb1 := HB.out
 rw [Zo6 hlt] at hb1
 have HB1 := Za hb1
 clear HB hb1
 obtain ⟨e, he⟩ : ∃ e, e = i - 1 := ⟨_, rfl⟩
 have t1 : IntKind.i64.wrap ((i : Int) - 1) = (e : Int) := by rw [IntKind.wrap_i64]; omega
 have HE := Za he
 have hae : a ≤ e := by omega
 have hei : e < n := by omega
 clear he t0
 go_wp2_with fail
 go_loopg [13] (e - a) (fun gg s13 wr => ∃ (k : Nat) (M : List Nat), s13 = .int .i64 k ∧ a ≤ k ∧ k ≤ e ∧ e - k ≤ gg ∧ Aside (SSt w0 base g c n wr M) ∧ Aside (shR M k (e - k) = shR L a (e - a)))
 case atStart => exact ⟨a, L, rfl, Nat.le_refl _, by omega, by omega, HS.out, (show Aside _ from rfl)⟩
 obtain ⟨k, M, rfl, hak, hke, hg2, HS, HR⟩ := hrel
 by_cases hlt2 : k < e
 ·
  have hltz2 : (k : Int) < (e : Int) := by omega
  have hr := HR.out
  rw [show e - k = (e - (k + 1)) + 1 by omega, shR] at hr
  have HR2 := Za hr
  clear hr HR
  obtain ⟨k1, hk1⟩ : ∃ k1, k1 = k + 1 := ⟨_, rfl⟩
  have ca := HS.out.cell (j := k) (by omega)
  have cb := HS.out.cell (j := k1) (by omega)
  have fa := HS.out.frozen k
  have fb := HS.out.frozen k1
  have hsw := (HS.out.swap (i := k) (j := k1) (by omega) (by omega)).drew
  generalize M.getD k 0 = x at ca hsw
  generalize M.getD k1 0 = y at cb hsw
  have t2 : IntKind.i64.wrap ((k : Int) + 1) = (k1 : Int) := by rw [IntKind.wrap_i64]; omega
  have z1 : (k : Int) < (n : Int) := by omega
  have z2 : (k1 : Int) < (n : Int) := by omega
  have n1 : ¬ k = k1 := by omega
  have n2 : ¬ k1 = k := by omega
  rw [← hk1] at HR2
  have HK := Za hk1
  have HSW := Za hsw
  clear hk1 hsw
  go_wp2_with fail
  go_big_region
  go_wp2_with fail
  go_roundg (e - (k + 1))
  case measure => omega
  case rel => exact ⟨k1, _, by first | rfl | go_num, by have := HK.out; omega, by have := HK.out; omega, by have := HK.out; omega, HSW.out, HR2.out⟩
 have hltz2 : ¬ (k : Int) < (e : Int) := by omega
 have hr := HR.out
 rw [show e - k = 0 by omega, shR] at hr
 have HR2 := Za hr
 clear hr HR
 go_wp2_with fail
 exact bodyPost_ret (v := .tuple #[]) (by simp [results, Tryz.results249, go_sem]) rfl ⟨rfl, by rw [← HB1.out, ← HE.out, ← HR2.out]; exact HS.out⟩
theorem Zte (w0 : World) (base g c n : Nat) (f : Nat) (lb : Array Value) (left : List Int) (eg : ∀ args w, (callFunc f args).run Tryz.prog w = .ok (.enter f args) w) (hc : Zip f lb left n g w0) (fu a m b : Nat) (W : World) (L : List Nat)
 (h : SSt w0 base g c n W L) (ham : a < m) (hmb : m < b) (hbn : b ≤ n) (hn : n ≤ 1000000) (h1 : ¬ m - a = 1) (h2 : b - m = 1) :
 Calls Tryz.prog 249 #[.slice (some ⟨g, 0, none⟩) n c, .int .i64 a, .int .i64 m, .int .i64 b, .func (.func f) #[] lb] W (fun e w' => e = .returned (.tuple #[]) ∧ SSt w0 base g c n w' (Zcn left (fu + 1) a m b L)) := by
 have H0 := Za h
 have HC := Za hc
 have HD : Hid (Zcn left (fu + 1) a m b L = shL L m (m - bs (Zgc left m L) (m - a) a m)) := by show Zcn _ _ _ _ _ _ = _; rw [Zcn, if_neg h1, if_pos h2]
 rw [HD.out]
 clear h hc
 obtain ⟨ma, hma⟩ : ∃ ma, ma = m - a := ⟨_, rfl⟩
 have t00 : IntKind.i64.wrap ((m : Int) - (a : Int)) = (ma : Int) := by rw [IntKind.wrap_i64]; omega
 have tne : ((ma : Int) == 1) = false := by simp; omega
 have t0 : IntKind.i64.wrap ((b : Int) - (m : Int)) = 1 := by rw [IntKind.wrap_i64]; omega
 have HMA := Za hma
 clear hma
 go_enter Tryz.func249, Tryz.ntmps249
 go_wp2_with fail
 go_loopg [14, 15] (m - a) (fun gg s14 s15 wr => ∃ (i j fv : Nat), s14 = .int .i64 i ∧ s15 = .int .i64 j ∧ a ≤ i ∧ i ≤ j ∧ j ≤ m ∧ j - i ≤ fv ∧ fv ≤ gg ∧ Aside (SSt w0 base g c n wr L) ∧ Aside (bs (Zgc left m L) fv i j = bs (Zgc left m L) (m - a) a m))
 case atStart => exact ⟨a, m, m - a, rfl, rfl, by omega, by omega, by omega, by omega, Nat.le_refl _, H0.out, (show Aside _ from rfl)⟩
 obtain ⟨i, j, fv, rfl, rfl, hi, hij, hj, hfv, hg, HS, HB⟩ := hrel
 by_cases hlt : i < j
 ·
  have hltz : (i : Int) < (j : Int) := by omega
  obtain ⟨fv, rfl⟩ : ∃ f', fv = f' + 1 := ⟨fv - 1, by omega⟩
  obtain ⟨h, hh⟩ : ∃ h, h = (i + j) / 2 := ⟨_, rfl⟩
  have HY := fun hp => Zpw (p := Zgc left m L) (f := fv) hlt hp
  have HN := fun hp => Ztc (p := Zgc left m L) (f := fv) hlt hp
  rw [← hh] at HY HN
  have hpd : Zgc left m L h = !decide (ltL left (L.getD m 0) (L.getD h 0)) := rfl
  have ch := HS.out.cell (j := h) (by omega)
  have ca := HS.out.cell (j := m) (by omega)
  have hx := HS.out.get (j := h) (by omega)
  have hy := HS.out.get (j := m) (by omega)
  have hcall := fun q => HC.out (wr.drewN q) _ _ (HS.out.drewN q).grow hy hx
  have hltl := Zje left (L.getD m 0) (L.getD h 0)
  rw [Bool.eq_iff_iff, Bool.not_eq_true', decide_eq_false_iff_not, ← hltl] at hpd
  generalize L.getD h 0 = x at ch hcall hpd
  generalize L.getD m 0 = y at ca hcall hpd
  generalize Zm1 left y x = cz at hcall hpd
  clear hltl hx hy
  obtain ⟨u, hu⟩ : ∃ u, u = i + j := ⟨_, rfl⟩
  have t1 : IntKind.i64.wrap ((i : Int) + (j : Int)) = (u : Int) := by rw [IntKind.wrap_i64]; omega
  have t2 : IntKind.u64.wrap (u : Int) = (u : Int) := by rw [IntKind.wrap_u64]; omega
  have t3 : IntKind.i64.wrap ((u : Int) / 2) = (h : Int) := by rw [IntKind.wrap_i64]; omega
  have t4 : IntKind.i64.wrap ((h : Int) + 1) = ((h + 1 : Nat) : Int) := by rw [IntKind.wrap_i64]; omega
  have z1 : (h : Int) < (n : Int) := by omega
  have z2 : (m : Int) < (n : Int) := by omega
  have HH := Za hh
  have HU := Za hu
  have HY := Za HY
  have HN := Za HN
  have HPD := Za hpd
  clear hh hu hpd
  go_wp2_with fail
  by_cases hlv : cz < 0
  ·
   have HP := Za (HN.out (by rw [Bool.eq_false_iff]; exact fun e => by have := HPD.out.1 e; omega))
   clear HY HN HPD
   go_quiet (first | (go_at_fn f; refine Calls.quiet_of (hcall _)))
   go_wp2_with fail
   go_roundg fv
   case measure => omega
   case rel => exact ⟨i, h, fv, rfl, rfl, by omega, by have := HH.out; omega, by have := HH.out; omega, by have := HH.out; omega, Nat.le_refl _, HS.out.drewN _, (show Aside _ from HP.out.symm.trans HB.out)⟩
  have HP := Za (HY.out (HPD.out.2 (by omega)))
  clear HY HN HPD
  go_quiet (first | (go_at_fn f; refine Calls.quiet_of (hcall _)))
  go_wp2_with fail
  go_roundg fv
  case measure => omega
  case rel => exact ⟨h + 1, j, fv, by first | rfl | go_num, rfl, by have := HH.out; omega, by have := HH.out; omega, by omega, by have := HH.out; omega, Nat.le_refl _, HS.out.drewN _, (show Aside _ from HP.out.symm.trans HB.out)⟩
 have hltz : ¬ (i : Int) < (j : Int) := by omega
 have hb1 := HB.out
 rw [Zo6 hlt] at hb1
 have HB1 := Za hb1
 clear HB hb1 t0
 go_wp2_with fail
 go_loopg [17] (m - i) (fun gg s17 wr => ∃ (k : Nat) (M : List Nat), s17 = .int .i64 k ∧ i ≤ k ∧ k ≤ m ∧ k - i ≤ gg ∧ Aside (SSt w0 base g c n wr M) ∧ Aside (shL M k (k - i) = shL L m (m - i)))
 case atStart => exact ⟨m, L, rfl, by omega, Nat.le_refl _, by omega, HS.out, (show Aside _ from rfl)⟩
 obtain ⟨k, M, rfl, hak, hke, hg2, HS, HR⟩ := hrel
 by_cases hlt2 : i < k
 ·
  have hltz2 : (i : Int) < (k : Int) := by omega
  obtain ⟨kp, hk1⟩ : ∃ kp, k = kp + 1 := ⟨k - 1, by omega⟩
  have hr := HR.out
  rw [show k - i = (kp - i) + 1 by omega, shL, show k - 1 = kp by omega] at hr
  have HR2 := Za hr
  clear hr HR
  have ca := HS.out.cell (j := k) (by omega)
  have cb := HS.out.cell (j := kp) (by omega)
  have fa := HS.out.frozen k
  have fb := HS.out.frozen kp
  have hsw := (HS.out.swap (i := k) (j := kp) (by omega) (by omega)).drew
  generalize M.getD k 0 = x at ca hsw
  generalize M.getD kp 0 = y at cb hsw
  have t2 : IntKind.i64.wrap ((k : Int) - 1) = (kp : Int) := by rw [IntKind.wrap_i64]; omega
  have z1 : (k : Int) < (n : Int) := by omega
  have z2 : (kp : Int) < (n : Int) := by omega
  have n1 : ¬ k = kp := by omega
  have n2 : ¬ kp = k := by omega
  have HK := Za hk1
  have HSW := Za hsw
  clear hk1 hsw
  go_wp2_with fail
  go_big_region
  go_wp2_with fail
  go_roundg (kp - i)
  case measure => have := HK.out; omega
  case rel => exact ⟨kp, _, by first | rfl | go_num, by have := HK.out; omega, by have := HK.out; omega, by have := HK.out; omega, HSW.out, HR2.out⟩
 have hltz2 : ¬ (i : Int) < (k : Int) := by omega
 have hr := HR.out
 rw [show k - i = 0 by omega, shL] at hr
 have HR2 := Za hr
 clear hr HR
 go_wp2_with fail
 exact bodyPost_ret (v := .tuple #[]) (by simp [results, Tryz.results249, go_sem]) rfl ⟨rfl, by rw [← HB1.out, ← HR2.out]; exact HS.out⟩
end Go.Proofs.YtgdmcmicfoamlaaGreatDoor
