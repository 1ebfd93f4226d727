/- Layer 17: idle.become, where it may. -/
import Derived.Test.YtdalnaegjclacaaF
import Derived.Test.YtdalnaegjclacaaAq
namespace Go.Proofs.Ytdalnaegjclacaa
open Go.RowKit

theorem clone_int2 (A : Option Addr) (c : Nat) (xs : List Int) (w : World) (hx : Sl encI 1 w A xs) (hn : xs.length ≤ 1000000) :
    Calls Try.prog 93 #[.slice A xs.length c] w fun e w' => ∃ A' c', e = .returned (.slice A' xs.length c') ∧ OwI w.heap.size w' (.slice A' xs.length c') xs ∧ Below w.heap.size w w' :=
  (clone_int A c xs w hx hn).mono fun e w' ⟨v, he, ho, hb⟩ => by
    obtain ⟨A', c', rfl, _, _⟩ := Own.sl encI_length ho
    exact ⟨A', c', he, ho, hb⟩
theorem keepS {w1 W w2 : World} {a b : Addr} {v u : Value} (hb : Below W.heap.size W w2) (h : W.cell? a = some v ∧ W.cell? b = some u ∧ Below w1.heap.size w1 W) : w2.cell? a = some v ∧ w2.cell? b = some u ∧ Below w1.heap.size w1 w2 := ⟨cell_below hb h.1, cell_below hb h.2.1, below_then h.2.2 hb⟩
theorem free_below {w w1 : World} (h : Below w.heap.size w w1) {g i : Nat} {u : Value} (hc : w.cell? ⟨g, i, none⟩ = some u) (hf : ∀ j, w.frozen? ⟨g, j, none⟩ = false) : ∀ j, w1.frozen? ⟨g, j, none⟩ = false :=
  fun j => (h.frozen (p := ⟨g, j, none⟩) (show g < _ from cell_lt hc)).trans (hf j)
theorem new41 {w w1 : World} {a b : Value} (h : Below (w.alloc (.cells #[a, b] 41)).heap.size (w.alloc (.cells #[a, b] 41)) w1) : w1.cell? ⟨w.heap.size, 0, none⟩ = some a ∧ w1.cell? ⟨w.heap.size, 1, none⟩ = some b ∧ ∀ j, w1.frozen? ⟨w.heap.size, j, none⟩ = false :=
  ⟨cell_below h (new_cell w _ 41 0 _ rfl), cell_below h (new_cell w _ 41 1 _ rfl), free_below h (new_cell w _ 41 0 _ rfl) (new_free w _ 41)⟩
theorem new41C {w w1 : World} {a b : Value} {G : Prop} (h : Below (w.alloc (.cells #[a, b] 41)).heap.size (w.alloc (.cells #[a, b] 41)) w1) (k : w1.cell? ⟨w.heap.size, 0, none⟩ = some a → w1.cell? ⟨w.heap.size, 1, none⟩ = some b → (∀ j, w1.frozen? ⟨w.heap.size, j, none⟩ = false) → G) : G := k (new41 h).1 (new41 h).2.1 (new41 h).2.2
theorem new41D {w w1 : World} {a b : Value} {G : Prop} (h : Below (w.alloc (.cells #[a, b] 41)).drew.heap.size (w.alloc (.cells #[a, b] 41)).drew w1) (k : w1.cell? ⟨w.heap.size, 0, none⟩ = some a → w1.cell? ⟨w.heap.size, 1, none⟩ = some b → (∀ j, w1.frozen? ⟨w.heap.size, j, none⟩ = false) → G) : G :=
  new41C (w := w) ⟨h.os, h.tape, h.output, h.size, h.block⟩ k
theorem old41C {w w1 : World} {g : Nat} {a b : Value} {G : Prop} (h : Below w.heap.size w w1) (u0 : w.cell? ⟨g, 0, none⟩ = some a) (u1 : w.cell? ⟨g, 1, none⟩ = some b) (uf : ∀ j, w.frozen? ⟨g, j, none⟩ = false)
    (k : w1.cell? ⟨g, 0, none⟩ = some a → w1.cell? ⟨g, 1, none⟩ = some b → (∀ j, w1.frozen? ⟨g, j, none⟩ = false) → G) : G := k (cell_below h u0) (cell_below h u1) (free_below h u0 uf)
/-- Clones of both, and the struct that holds them. -/
def Clo (w1 : World) (is st : List Int) (wc : World) (g : Nat) (va vb : Value) : Prop :=
  wc.cell? ⟨g, 0, none⟩ = some va ∧ wc.cell? ⟨g, 1, none⟩ = some vb ∧ (∀ j, wc.frozen? ⟨g, j, none⟩ = false) ∧ w1.heap.size ≤ g ∧ OwI w1.heap.size wc va is ∧ OwI w1.heap.size wc vb st ∧
  va.ownBlock ≠ some g ∧ vb.ownBlock ≠ some g ∧ (va.ownBlock = none ∨ va.ownBlock ≠ vb.ownBlock) ∧ Below w1.heap.size w1 wc

theorem own_rng {w : World} {base : Nat} {v : Value} {xs : List Int} (h : OwI base w v xs) : ∀ k, v.ownBlock = some k → base ≤ k ∧ k < w.heap.size := by
  intro k hk
  have h' : Own encI 1 3 base w v xs := h
  unfold Own at h'
  rcases h'.2 with ⟨hv, _⟩ | ⟨g, cap, cur, hv, hb, hg, _⟩
  · rw [hv] at hk; simp [Value.ownBlock] at hk
  · rw [hv] at hk
    simp [Value.ownBlock] at hk
    subst hk
    exact ⟨hb, (Array.getElem?_eq_some_iff.1 hg).1⟩
theorem apart_rng {va vb : Value} {a1 a2 b1 b2 : Nat} (ha : ∀ k, va.ownBlock = some k → a1 ≤ k ∧ k < a2) (hb : ∀ k, vb.ownBlock = some k → b1 ≤ k ∧ k < b2) (h : a2 ≤ b1 ∨ b2 ≤ a1) : va.ownBlock = none ∨ va.ownBlock ≠ vb.ownBlock := by
  cases hva : va.ownBlock with
  | none => exact .inl rfl
  | some k =>
    refine .inr (fun e => ?_)
    have h1 := ha k hva
    have h2 := hb k e.symm
    omega
theorem ne_rng {va : Value} {a1 a2 g : Nat} (ha : ∀ k, va.ownBlock = some k → a1 ≤ k ∧ k < a2) (h : g < a1 ∨ a2 ≤ g) : va.ownBlock ≠ some g := fun e => by have := ha g e; omega
theorem own_more {w w' : World} {base base' : Nat} {v : Value} {xs : List Int} (h : OwI base w v xs) (hb : Below w.heap.size w w') (hl : base' ≤ base) : OwI base' w' v xs := Own.lower (Own.below h hb) hl
theorem cloA {w1 X WI WS : World} {va vb : Value} {is st : List Int} {bI bS : Nat} (oI : OwI bI WI va is) (oS : OwI bS WS vb st) (hI : Below WI.heap.size WI X) (hS : Below WS.heap.size WS X) (hIb : w1.heap.size ≤ bI) (hSb : w1.heap.size ≤ bS) (hap : WI.heap.size ≤ bS ∨ WS.heap.size ≤ bI) (hB : Below w1.heap.size w1 X) :
    Clo w1 is st (X.alloc (.cells #[va, vb] 41)) X.heap.size va vb :=
  ⟨new_cell X _ 41 0 _ rfl, new_cell X _ 41 1 _ rfl, new_free X _ 41, hB.size, own_more oI (below_then hI (below_new _ _)) hIb, own_more oS (below_then hS (below_new _ _)) hSb,
    ne_rng (own_rng oI) (.inr hI.size), ne_rng (own_rng oS) (.inr hS.size), apart_rng (own_rng oI) (own_rng oS) hap, below_then hB (below_new _ _)⟩
theorem far_set {w : World} {base g : Nat} {v : Value} {xs : List Int} (h : OwI base w v xs) (hn : v.ownBlock ≠ some g) (a b : Value) : OwI base ((w.setCell ⟨g, 0, none⟩ a).setCell ⟨g, 1, none⟩ b) v xs :=
  OwI.far h (only_setCells g [a, b] 0 w) (.inr hn)
theorem cloB {w1 X WI WS : World} {va vb a b : Value} {is st : List Int} {bI bS g : Nat} (oI : OwI bI WI va is) (oS : OwI bS WS vb st) (u0 : X.cell? ⟨g, 0, none⟩ = some a) (u1 : X.cell? ⟨g, 1, none⟩ = some b) (uf : ∀ j, X.frozen? ⟨g, j, none⟩ = false) (hI : Below WI.heap.size WI X) (hS : Below WS.heap.size WS X) (hIb : w1.heap.size ≤ bI) (hSb : w1.heap.size ≤ bS) (hap : WI.heap.size ≤ bS ∨ WS.heap.size ≤ bI) (hB : Below w1.heap.size w1 X)
    (hg : w1.heap.size ≤ g) (hgI : g < bI ∨ WI.heap.size ≤ g) (hgS : g < bS ∨ WS.heap.size ≤ g) :
    Clo w1 is st ((X.setCell ⟨g, 0, none⟩ va).setCell ⟨g, 1, none⟩ vb) g va vb :=
  ⟨(set2 u0 u1 va vb).1, (set2 u0 u1 va vb).2, fun j => by rw [frozen_set, frozen_set]; exact uf j, hg, far_set (own_more oI hI hIb) (ne_rng (own_rng oI) hgI) _ _, far_set (own_more oS hS hSb) (ne_rng (own_rng oS) hgS) _ _,
    ne_rng (own_rng oI) hgI, ne_rng (own_rng oS) hgS, apart_rng (own_rng oI) (own_rng oS) hap, (hB.setCell hg _).setCell hg _⟩
theorem drew_size (w : World) : w.drew.heap.size = w.heap.size := rfl

theorem enters94 : ∀ args w, (callFunc 94 args).run Try.prog w = .ok (.enter 94 args) w := enters_of Try.func94 (by kernel_rfl) rfl
theorem pred94 (B : Nat) (i : Int) : PredS 94 B (fun x => x == i) (fun _ => True) (fun W => W.cell? ⟨B, 0, none⟩ = some (.int .i64 i)) := by
  intro W x _ hc
  have hc' : W.cell? ⟨B, 0, none⟩ = some (.int .i64 i) := hc
  clear hc
  go_enter Try.func94, Try.ntmps94
  go_wp2_with fail
  go_ret
  exact ⟨rfl, Below.refl _ _⟩
theorem all4_set {is : List Int} (h : all4 is = true) (n : Nat) (v : Int) (hv : 0 ≤ v ∧ v ≤ 3) : all4 (is.set n v) = true := by
  refine all4_all (fun j hj => ?_)
  rw [List.getElem_set]
  split
  · exact hv
  · exact all4_at h (by simpa using hj)
def fitI (is : List Int) : Bool := fitN (cn is 0) (cn is 1) (cn is 2)
def becSt (st : List Int) (i : Int) (what : Int) : List Int := if what = 0 ∨ what = 1 then st.filter (fun x => !(x == i)) else if what = 2 then st ++ [i] else st
/-- What idle.become hands back where it may. -/
def BecY (w : World) (is' st' : List Int) (e : Ending) (w' : World) : Prop := ∃ A c B d, e = .returned (.tuple #[.agg #[.slice A is'.length c, .slice B st'.length d], .bool (fitI is'), .int .i64 0]) ∧
  OwI w.heap.size w' (.slice A is'.length c) is' ∧ OwI w.heap.size w' (.slice B st'.length d) st' ∧ ((Value.slice A is'.length c).ownBlock = none ∨ (Value.slice A is'.length c).ownBlock ≠ (Value.slice B st'.length d).ownBlock) ∧ Below w.heap.size w w'
theorem set2_far {w : World} {g q i : Nat} {v a b : Value} (h : w.cell? ⟨q, i, none⟩ = some v) (hne : q ≠ g) : ((w.setCell ⟨g, 0, none⟩ a).setCell ⟨g, 1, none⟩ b).cell? ⟨q, i, none⟩ = some v := by
  rw [cell_set_other hne, cell_set_other hne]; exact h
theorem grown_free {w w' : World} {row : Option Nat} (hg : w.grownBy w' row) {g : Nat} (hlt : g < w.heap.size) (hne : some g ≠ row) (h : ∀ j, w.frozen? ⟨g, j, none⟩ = false) : ∀ j, w'.frozen? ⟨g, j, none⟩ = false :=
  fun j => (World.frozen?_of_block (a := ⟨g, j, none⟩) (hg.block g hlt hne)).trans (h j)

theorem ownBlock_eq (A : Option Addr) (n c n' c' : Nat) : (Value.slice A n c).ownBlock = (Value.slice A n' c').ownBlock := by cases A <;> simp [Value.ownBlock]
theorem own_slice {w : World} {base : Nat} {v : Value} {xs : List Int} (h : OwI base w v xs) : ∃ A m c, v = .slice A m c ∧ m = xs.length ∧ OwI base w (.slice A m c) xs := by
  obtain ⟨A, c, rfl, _, _⟩ := Own.sl encI_length h
  exact ⟨A, _, c, rfl, rfl, h⟩
theorem app_facts {w1 w3 w7 : World} {g gi li ci m7 c7 ls cs n : Nat} {As A7 : Option Addr} {is' st : List Int} (hb6 : Below w1.heap.size w1 w3) (HNI : (Value.slice (some ⟨gi, 0, none⟩) li ci).ownBlock ≠ some g) (HNS : (Value.slice As ls cs).ownBlock ≠ some g)
    (HAP : (Value.slice (some ⟨gi, 0, none⟩) li ci).ownBlock = none ∨ (Value.slice (some ⟨gi, 0, none⟩) li ci).ownBlock ≠ (Value.slice As ls cs).ownBlock) (OI : OwI w1.heap.size w3 (.slice (some ⟨gi, 0, none⟩) li ci) is') (OS : OwI w1.heap.size w3 (.slice As ls cs) st)
    {u0 u1 : Value} (g0 : w3.cell? ⟨g, 0, none⟩ = some u0) (g1 : w3.cell? ⟨g, 1, none⟩ = some u1) (gF : ∀ j, w3.frozen? ⟨g, j, none⟩ = false) (hg1 : w1.heap.size ≤ g)
    (hg7 : (w3.alloc (.cells #[.int .i64 (n : Int)] 3)).grownBy w7 (Value.slice As ls cs).ownBlock) (hat : (Value.slice A7 m7 c7).ownBlock = (Value.slice As ls cs).ownBlock ∨ (Value.slice A7 m7 c7).ownBlock = some (w3.alloc (.cells #[.int .i64 (n : Int)] 3)).heap.size)
    (oD : OwI w1.heap.size w7 (.slice A7 m7 c7) (st ++ [(n : Int)])) (hm7 : m7 = (st ++ [(n : Int)]).length) :
    w7.cell? ⟨g, 0, none⟩ = some u0 ∧ w7.cell? ⟨g, 1, none⟩ = some u1 ∧ w7.frozen? ⟨g, 1, none⟩ = false ∧ Hid (m7 = (becSt st n 2).length) ∧
    (w7.setCell ⟨g, 1, none⟩ (.slice A7 m7 c7)).cell? ⟨g, 0, none⟩ = some u0 ∧ (w7.setCell ⟨g, 1, none⟩ (.slice A7 m7 c7)).cell? ⟨g, 1, none⟩ = some (.slice A7 m7 c7) ∧ (∀ j, (w7.setCell ⟨g, 1, none⟩ (.slice A7 m7 c7)).frozen? ⟨g, j, none⟩ = false) ∧
    OwI w1.heap.size (w7.setCell ⟨g, 1, none⟩ (.slice A7 m7 c7)) (.slice (some ⟨gi, 0, none⟩) li ci) is' ∧ OwI w1.heap.size (w7.setCell ⟨g, 1, none⟩ (.slice A7 m7 c7)) (.slice A7 m7 c7) (becSt st n 2) ∧ Below w1.heap.size w1 (w7.setCell ⟨g, 1, none⟩ (.slice A7 m7 c7)) ∧
    ((Value.slice (some ⟨gi, 0, none⟩) li ci).ownBlock = none ∨ (Value.slice (some ⟨gi, 0, none⟩) li ci).ownBlock ≠ (Value.slice A7 m7 c7).ownBlock) := by
  have hne : some g ≠ (Value.slice As ls cs).ownBlock := fun e => HNS e.symm
  have v0 := hg7.cell (cell_alloc g0 _) hne
  have v1 := hg7.cell (cell_alloc g1 _) hne
  have hbn := below_new w3 (.cells #[.int .i64 (n : Int)] 3)
  have vf := grown_free hg7 (cell_lt (cell_alloc g0 _)) hne (free_below hbn g0 gF)
  have OI7 := OwI.far (Own.below OI hbn) hg7 HAP
  have BW7 : Below w1.heap.size w1 w7 := (below_then hb6 hbn).grown hg7 (below_then hb6 hbn).size (fun k hk => (own_rng OS k hk).1)
  have hs := size_alloc w3 (.cells #[.int .i64 (n : Int)] 3)
  have hglt := cell_lt g0
  have hnD : (Value.slice A7 m7 c7).ownBlock ≠ some g := by
    rcases hat with h | h
    · rw [h]; exact HNS
    · rw [h]; intro e; injection e with e; have : g < w3.heap.size := hglt; omega
  have hap : (Value.slice (some ⟨gi, 0, none⟩) li ci).ownBlock = none ∨ (Value.slice (some ⟨gi, 0, none⟩) li ci).ownBlock ≠ (Value.slice A7 m7 c7).ownBlock := by
    rcases hat with h | h
    · rw [h]; exact HAP
    · right; rw [h]; intro e; have := (own_rng OI _ e).2; omega
  have hbs : becSt st n 2 = st ++ [(n : Int)] := rfl
  refine ⟨v0, v1, vf 1, by show _ = _; rw [hbs]; exact hm7, by rw [set_off (by decide)]; exact v0, set_same v1, fun j => by rw [frozen_set]; exact vf j, OwI.far OI7 (only_setCells g [.slice A7 m7 c7] 1 w7) (.inr HNI), ?_, BW7.setCell hg1 _, hap⟩
  rw [hbs]
  exact OwI.far oD (only_setCells g [.slice A7 m7 c7] 1 w7) (.inr hnD)

set_option maxRecDepth 100000 in
set_option maxHeartbeats 16000000 in
theorem become_yes (A B F : Option Addr) (c d f : Nat) (is st fr : List Int) (n : Nat) (what : Int) (w : World) (hx : Sl encI 1 w A is) (hy : Sl encI 1 w B st) (hf : Sl encI 1 w F fr) (hc : chkI is st = true) (hn : n < is.length) (hm : is[n] ∈ fr) (hfr : fr.length ≤ 100) (hwh : what = 0 ∨ what = 1 ∨ what = 2 ∨ what = 3) :
    Calls Try.prog 68 #[.agg #[.slice A is.length c, .slice B st.length d], .int .i64 n, .int .i64 what, .slice F fr.length f] w (BecY w (is.set n what) (becSt st n what)) := by
  obtain ⟨p4, p1, p2, pf, ps, pk⟩ := chkI_parts hc
  have hst : st.length ≤ 128 := by have := cn_le is 2; have := cn_le is 3; omega
  obtain ⟨w0, hw0⟩ : ∃ W, ((w.alloc (.cells #[.slice A is.length c, .slice B st.length d] 41)).alloc (.cells #[.int .i64 n] 3)).alloc (.cells #[.slice none 0 0, .slice none 0 0] 41) = W := ⟨_, rfl⟩
  obtain ⟨hb0, h1, h2, h3, k5, hs0⟩ := three w _ _ _ _ _ _ hw0
  have k0 : w0.cell? ⟨w.heap.size, 0, none⟩ = some (.slice A is.length c) := h1 0 _ rfl
  have k1 : w0.cell? ⟨w.heap.size, 1, none⟩ = some (.slice B st.length d) := h1 1 _ rfl
  have k2 : w0.cell? ⟨w.heap.size + 1, 0, none⟩ = some (.int .i64 n) := h2 0 _ rfl
  have k3 : w0.cell? ⟨w.heap.size + 1 + 1, 0, none⟩ = some (.slice none 0 0) := h3 0 _ rfl
  have k4 : w0.cell? ⟨w.heap.size + 1 + 1, 1, none⟩ = some (.slice none 0 0) := h3 1 _ rfl
  have hck := check_any A B c d is st _ (hx.below hb0) (hy.below hb0) (by omega) (by omega)
  have hx0 := hx.below hb0
  have hy0 := hy.below hb0
  have hf0 := hf.below hb0
  have hg0 := cell_lt k3
  have HW0 := Lib.hid hw0
  have hcon := fun W (h : Sl encI 1 W F fr) => contains_int F f fr is[n] W h (by omega)
  rw [show decide (is[n] ∈ fr) = true from by simpa using hm] at hcon
  rw [errI_yes hc] at hck
  have z0 : (0 : Int) ≤ (n : Int) := by omega
  have z1 : (n : Int) < (is.length : Int) := by omega
  have HP4 := Lib.hid p4
  have HPS := Lib.hid ps
  clear hw0 h1 h2 h3 hs0 hc p4 pf ps pk hm
  go_enter Try.func68, Try.ntmps68
  go_wp2_with fail
  rw [HW0.out]
  refine hck.mono ?_
  rintro e w1 ⟨rfl, hb1⟩
  have q0 := cell_below hb1 k0
  have q1 := cell_below hb1 k1
  have q2 := cell_below hb1 k2
  have q3 := cell_below hb1 k3
  have q4 := cell_below hb1 k4
  have q5 : ∀ j, w1.frozen? ⟨w.heap.size + 1 + 1, j, none⟩ = false := fun j => (hb1.frozen hg0).trans (k5 j)
  have hf1 := hf0.below hb1
  have hx1 := hx0.below hb1
  have hy1 := hy0.below hb1
  obtain ⟨b1, o1, rfl, e0⟩ := hx1.int_at n hn
  go_wp2_with fail
  refine (hcon w1 hf1).mono ?_
  rintro e w2 ⟨rfl, rfl⟩
  have CI := fun W (h : Sl encI 1 W (some ⟨b1, o1, none⟩) is) => clone_int2 (some ⟨b1, o1, none⟩) c is W h (by omega)
  have CS := fun W (h : Sl encI 1 W B st) => clone_int2 B d st W h (by omega)
  have KS : ∀ W, Below w1.heap.size w1 W → W.cell? ⟨w.heap.size, 0, none⟩ = some (.slice (some ⟨b1, o1, none⟩) is.length c) ∧ W.cell? ⟨w.heap.size, 1, none⟩ = some (.slice B st.length d) ∧ Below w1.heap.size w1 W := fun W h => ⟨cell_below h q0, cell_below h q1, h⟩
  go_upto_region 5 with fail
  go_cut [11] (fun s11 wc => ∃ g va vb, s11 = .pointer (some ⟨g, 0, none⟩) ∧ Aside (Clo w1 is st wc g va vb))
  case first =>
    go_region_held3 (fun W => W.cell? ⟨w.heap.size, 0, none⟩ = some (.slice (some ⟨b1, o1, none⟩) is.length c) ∧ W.cell? ⟨w.heap.size, 1, none⟩ = some (.slice B st.length d) ∧ Below w1.heap.size w1 W) ((refine KS _ ?_; repeat (first | exact Below.refl _ _ | refine Below.drew ?_ | assumption | refine below_then ?_ (below_new _ _) | refine below_then ?_ hbI | refine below_then ?_ hbS | refine Below.setCell ?_ (by first | exact Nat.le_refl _ | (have h1 := hbI.size; have h2 := hbS.size; have h3 : w1.drew.heap.size = w1.heap.size := rfl; simp only [size_alloc] at h1 h2; show w1.heap.size ≤ _; dsimp only; omega)) _))) (first | (go_at_call 93; refine (CI _ (hx1.below (‹_ ∧ _ ∧ Below _ _ _›).2.2)).mono ?_; rintro e wI ⟨Ai, ci, rfl, oI, hbI⟩; (first | (refine new41C hbI ?_; intro u0 u1 uf) | (refine new41D hbI ?_; intro u0 u1 uf) | (refine old41C hbI u0 u1 uf ?_; clear u0 u1 uf; intro u0 u1 uf) | skip)) | (go_at_call 93; refine (CS _ (hy1.below (‹_ ∧ _ ∧ Below _ _ _›).2.2)).mono ?_; rintro e wS ⟨As, cs, rfl, oS, hbS⟩; (first | (refine new41C hbS ?_; intro u0 u1 uf) | (refine new41D hbS ?_; intro u0 u1 uf) | (refine old41C hbS u0 u1 uf ?_; clear u0 u1 uf; intro u0 u1 uf) | skip)))
    all_goals
      go_wp2_with fail
      go_meet
      have h1 := hbI.size
      have h2 := hbS.size
      have e1 := drew_size w1
      have e2 : (w1.alloc (.cells #[.slice none 0 0, .slice none 0 0] 41)).drew.heap.size = w1.heap.size + 1 := size_alloc w1 _
      have e3 := size_alloc wI (.cells #[.slice none 0 0, .slice none 0 0] 41)
      have e4 := size_alloc wS (.cells #[.slice none 0 0, .slice none 0 0] 41)
      first
        | exact ⟨_, _, _, rfl, cloA oI oS (by first | exact Below.refl _ _ | exact hbS | exact hbI | exact below_then (below_new _ _) hbS | exact below_then (below_new _ _) hbI) (by first | exact Below.refl _ _ | exact hbS | exact hbI | exact below_then (below_new _ _) hbS | exact below_then (below_new _ _) hbI) (by omega) (by omega) (by omega) (by repeat (first | exact Below.refl _ _ | refine Below.drew ?_ | refine below_then ?_ (below_new _ _) | refine below_then ?_ hbI | refine below_then ?_ hbS))⟩
        | exact ⟨_, _, _, rfl, cloB oI oS u0 u1 uf (by first | exact Below.refl _ _ | exact hbS | exact hbI | exact below_then (below_new _ _) hbS | exact below_then (below_new _ _) hbI) (by first | exact Below.refl _ _ | exact hbS | exact hbI | exact below_then (below_new _ _) hbS | exact below_then (below_new _ _) hbI) (by omega) (by omega) (by omega) (by repeat (first | exact Below.refl _ _ | refine Below.drew ?_ | refine below_then ?_ (below_new _ _) | refine below_then ?_ hbI | refine below_then ?_ hbS)) (by omega) (by omega) (by omega)⟩
  case rest =>
    have hr8 : w.heap.size + 1 + 1 < w1.heap.size := Nat.lt_of_lt_of_le hg0 hb1.size
    obtain ⟨g, va, vb, rfl, CL⟩ := hcut
    obtain ⟨d0, d1, dF, hg1, oI, oS, nI, nS, ap, BC⟩ := CL.out
    clear CL KS CI CS
    obtain ⟨gi, ci, rfl, hgi1, hgi2⟩ := OwI.form oI (by omega)
    obtain ⟨As, cs, rfl, _, _⟩ := Own.sl encI_length oS
    obtain ⟨_, ce, fe⟩ := OwI.cells oI n hn
    have fn := fe n
    have p0 := cell_below BC q2
    have nI' : gi ≠ g := fun e => nI (by rw [e]; rfl)
    have HOI := Lib.hid oI
    have HOS := Lib.hid oS
    have HBC := Lib.hid BC
    have HSET := Lib.hid (fun v : Int => OwI.set oI n hn v)
    have HAP := Lib.hid ap
    have HNS := Lib.hid nS
    have HNI := Lib.hid nI
    clear fe oI oS BC ap nS nI
    have f1 := dF 1
    have HDF := Lib.hid dF
    clear dF
    go_upto_region 8 with fail
    have hb6 : Below w1.heap.size w1 (wc.setCell ⟨gi, n, none⟩ (.int .i64 what)) := HBC.out.setCell hgi1 _
    have g0 : (wc.setCell ⟨gi, n, none⟩ (.int .i64 what)).cell? ⟨g, 0, none⟩ = some (.slice (some ⟨gi, 0, none⟩) is.length ci) := by rw [cell_set_other (show g ≠ gi from fun e => nI' e.symm)]; exact d0
    have g1 : (wc.setCell ⟨gi, n, none⟩ (.int .i64 what)).cell? ⟨g, 1, none⟩ = some (.slice As st.length cs) := by rw [cell_set_other (show g ≠ gi from fun e => nI' e.symm)]; exact d1
    have gF : ∀ j, (wc.setCell ⟨gi, n, none⟩ (.int .i64 what)).frozen? ⟨g, j, none⟩ = false := fun j => by rw [frozen_set]; exact HDF.out j
    have OI := Lib.hid (HSET.out what).1
    have OS := Lib.hid (OwI.far HOS.out (HSET.out what).2 (by rcases HAP.out with h | h; exact absurd h (by simp [Value.ownBlock]); right; exact fun e => h e.symm))
    clear d0 d1 ce fn p0 f1
    generalize wc.setCell ⟨gi, n, none⟩ (.int .i64 what) = w3 at *
    have p0 := cell_below hb6 q2
    have hwc : w1.heap.size ≤ w3.heap.size := hb6.size
    rcases hwh with rfl | rfl | rfl | rfl
    · have hr0 : w.heap.size + 1 < w1.heap.size := by omega
      have hdel := delFunc 94 (w.heap.size + 1) (fun x => x == (n : Int)) (fun _ => True) (fun W => W.cell? ⟨w.heap.size + 1, 0, none⟩ = some (.int .i64 n)) enters94 (pred94 _ _) (fun W W' h hb => cell_below hb h) As cs w1.heap.size st w3 OS.out (by omega) p0 (fun _ _ => trivial) (fun W r j v hA h => by
        subst hA
        have := (own_rng OS.out) r rfl
        show (W.setCell _ _).cell? _ = _
        rw [cell_set_other (show w.heap.size + 1 ≠ r by omega)]; exact h)
      have HDEL := Lib.hid hdel
      clear hdel
      go_wp2_with fail
      refine HDEL.out.mono ?_
      rintro e w7 ⟨m7, c7, rfl, hm7, oD, hgD⟩
      have v0 := hgD.cell g0 (fun e => HNS.out e.symm)
      have v1 := hgD.cell g1 (fun e => HNS.out e.symm)
      have vf := grown_free hgD (cell_lt g0) (fun e => HNS.out e.symm) gF
      have OI7 := OwI.far OI.out hgD HAP.out
      have BW7 : Below w1.heap.size w1 w7 := hb6.grown hgD hwc (fun k hk => (own_rng OS.out k hk).1)
      have HLST : Hid (m7 = (becSt st n 0).length) := hm7
      have hoB := ownBlock_eq As m7 c7 st.length cs
      have DG0 : (w7.setCell ⟨g, 1, none⟩ (.slice As m7 c7)).cell? ⟨g, 0, none⟩ = some (.slice (some ⟨gi, 0, none⟩) is.length ci) := by rw [set_off (by decide)]; exact v0
      have DG1 : (w7.setCell ⟨g, 1, none⟩ (.slice As m7 c7)).cell? ⟨g, 1, none⟩ = some (.slice As m7 c7) := set_same v1
      have DGF : ∀ j, (w7.setCell ⟨g, 1, none⟩ (.slice As m7 c7)).frozen? ⟨g, j, none⟩ = false := fun j => by rw [frozen_set]; exact vf j
      have OIS : OwI w1.heap.size (w7.setCell ⟨g, 1, none⟩ (.slice As m7 c7)) (.slice (some ⟨gi, 0, none⟩) is.length ci) (is.set n 0) := OwI.far OI7 (only_setCells g [.slice As m7 c7] 1 w7) (.inr HNI.out)
      have OST : OwI w1.heap.size (w7.setCell ⟨g, 1, none⟩ (.slice As m7 c7)) (.slice As m7 c7) (becSt st n 0) := OwI.far oD (only_setCells g [.slice As m7 c7] 1 w7) (.inr (by rw [hoB]; exact HNS.out))
      have BW : Below w1.heap.size w1 (w7.setCell ⟨g, 1, none⟩ (.slice As m7 c7)) := BW7.setCell hg1 _
      have AP : (Value.slice (some ⟨gi, 0, none⟩) is.length ci).ownBlock = none ∨ (Value.slice (some ⟨gi, 0, none⟩) is.length ci).ownBlock ≠ (Value.slice As m7 c7).ownBlock := by rw [hoB]; exact HAP.out
      have vf1 := vf 1
      clear hoB hm7 hgD oD HDEL g0 g1 gF p0 BW7 OI7 hb6 OI OS vf
      go_wp2_with fail
      have hct := counted_any (some ⟨gi, 0, none⟩) As ci m7 c7 (is.set n 0) (w7.setCell ⟨g, 1, none⟩ (.slice As m7 c7)) OIS.sl.1 (by rw [List.length_set]; omega)
      have htv : talV (is.set n 0) = .agg #[.int .i64 (cn (is.set n 0) 0), .int .i64 (cn (is.set n 0) 1), .int .i64 (cn (is.set n 0) 2), .int .i64 (cn (is.set n 0) 3)] := by unfold talV; rw [all4_set HP4.out n 0 (by omega)]; rfl
      rw [htv, all4_set HP4.out n 0 (by omega), List.length_set] at hct
      have l0 := cn_le (is.set n 0) 0
      have l1 := cn_le (is.set n 0) 1
      have l2 := cn_le (is.set n 0) 2
      rw [List.length_set] at l0 l1 l2
      have FT := fun W => fits_any (cn (is.set n 0) 0) (cn (is.set n 0) 1) (cn (is.set n 0) 2) (cn (is.set n 0) 3) W (by omega) (by omega) (by omega)
      clear htv
      refine hct.mono ?_
      rintro e w4 ⟨rfl, hb4⟩
      clear hct
      have D0 := cell_below hb4 DG0
      have D1 := cell_below hb4 DG1
      have DF := free_below hb4 DG0 DGF
      have OI4 := Own.below OIS hb4
      have OS4 := Own.below OST hb4
      have B4 := below_then BW hb4
      go_upto_region 15 with fail
      have e0 := cell_alloc D0 (.cells #[.int .i64 (cn (is.set n 0) 0), .int .i64 (cn (is.set n 0) 1), .int .i64 (cn (is.set n 0) 2), .int .i64 (cn (is.set n 0) 3)] 87)
      have e1 := cell_alloc D1 (.cells #[.int .i64 (cn (is.set n 0) 0), .int .i64 (cn (is.set n 0) 1), .int .i64 (cn (is.set n 0) 2), .int .i64 (cn (is.set n 0) 3)] 87)
      have t0 := new_cell w4 #[.int .i64 (cn (is.set n 0) 0), .int .i64 (cn (is.set n 0) 1), .int .i64 (cn (is.set n 0) 2), .int .i64 (cn (is.set n 0) 3)] 87 0 _ rfl
      have t1 := new_cell w4 #[.int .i64 (cn (is.set n 0) 0), .int .i64 (cn (is.set n 0) 1), .int .i64 (cn (is.set n 0) 2), .int .i64 (cn (is.set n 0) 3)] 87 1 (.int .i64 (cn (is.set n 0) 1)) rfl
      have t2 := new_cell w4 #[.int .i64 (cn (is.set n 0) 0), .int .i64 (cn (is.set n 0) 1), .int .i64 (cn (is.set n 0) 2), .int .i64 (cn (is.set n 0) 3)] 87 2 (.int .i64 (cn (is.set n 0) 2)) rfl
      have t3 := new_cell w4 #[.int .i64 (cn (is.set n 0) 0), .int .i64 (cn (is.set n 0) 1), .int .i64 (cn (is.set n 0) 2), .int .i64 (cn (is.set n 0) 3)] 87 3 (.int .i64 (cn (is.set n 0) 3)) rfl
      have BN := below_new w4 (.cells #[.int .i64 (cn (is.set n 0) 0), .int .i64 (cn (is.set n 0) 1), .int .i64 (cn (is.set n 0) 2), .int .i64 (cn (is.set n 0) 3)] 87)
      have OI5 := Own.below OI4 BN
      have OS5 := Own.below OS4 BN
      have B5 := below_then B4 BN
      have r3 := cell_below B5 q3
      have r4 := cell_below B5 q4
      have r5 := free_below B5 q3 q5
      have hs4 := B4.size
      have t0' : (w4.alloc (.cells #[.int .i64 (cn (is.set n 0) 0), .int .i64 (cn (is.set n 0) 1), .int .i64 (cn (is.set n 0) 2), .int .i64 (cn (is.set n 0) 3)] 87)).cell? ⟨w4.heap.size, 0, none⟩ = some (.int .i64 (cn (is.set n 0) 0)) := t0
      clear t0 D0 D1 DF OI4 OS4 B4 BN hb4 DG0 DG1 DGF OIS OST BW
      generalize w4.alloc (.cells #[.int .i64 (cn (is.set n 0) 0), .int .i64 (cn (is.set n 0) 1), .int .i64 (cn (is.set n 0) 2), .int .i64 (cn (is.set n 0) 3)] 87) = w5 at *
      generalize w4.heap.size = g5 at *
      have hne1 : g ≠ w.heap.size + 1 + 1 := by omega
      have hne2 : g5 ≠ w.heap.size + 1 + 1 := by omega
      go_region_held3 (fun W => W.cell? ⟨g, 0, none⟩ = some (.slice (some ⟨gi, 0, none⟩) is.length ci) ∧ W.cell? ⟨g, 1, none⟩ = some (.slice As m7 c7) ∧ W.cell? ⟨g5, 0, none⟩ = some (.int .i64 (cn (is.set n 0) 0)) ∧ W.cell? ⟨g5, 1, none⟩ = some (.int .i64 (cn (is.set n 0) 1)) ∧ W.cell? ⟨g5, 2, none⟩ = some (.int .i64 (cn (is.set n 0) 2)) ∧ W.cell? ⟨g5, 3, none⟩ = some (.int .i64 (cn (is.set n 0) 3))) (first | exact ⟨e0, e1, t0', t1, t2, t3⟩ | exact ⟨cell_below hbF e0, cell_below hbF e1, cell_below hbF t0', cell_below hbF t1, cell_below hbF t2, cell_below hbF t3⟩ | exact ⟨set2_far (cell_below hbF e0) hne1, set2_far (cell_below hbF e1) hne1, set2_far (cell_below hbF t0') hne2, set2_far (cell_below hbF t1) hne2, set2_far (cell_below hbF t2) hne2, set2_far (cell_below hbF t3) hne2⟩) (first | (go_at_call 67; refine (FT _).mono ?_; rintro e wF ⟨rfl, hbF⟩; have s3 := cell_below hbF r3; have s4 := cell_below hbF r4; have s5 := free_below hbF r3 r5))
      go_wp2_with fail
      have hbF' : Below w5.heap.size w5 wF := ⟨hbF.os, hbF.tape, hbF.output, hbF.size, hbF.block⟩
      obtain ⟨z0, z1⟩ := set2 s3 s4 (.slice (some ⟨gi, 0, none⟩) is.length ci) (.slice As m7 c7)
      refine bodyPost_ret (v := .tuple #[.agg #[.slice (some ⟨gi, 0, none⟩) is.length ci, .slice As m7 c7], .bool (fitI (is.set n 0)), .int .i64 0]) (by simp [results, Try.results68, go_sem, z0, z1, fitI]) rfl ?_
      have OI6 := far_set (Own.below OI5 hbF') (ne_rng (own_rng OI5) (.inl hr8)) (.slice (some ⟨gi, 0, none⟩) is.length ci) (.slice As m7 c7)
      have OS6 := far_set (Own.below OS5 hbF') (ne_rng (own_rng OS5) (.inl hr8)) (.slice (some ⟨gi, 0, none⟩) is.length ci) (.slice As m7 c7)
      have hw1 : w.heap.size ≤ w1.heap.size := by omega
      refine ⟨some ⟨gi, 0, none⟩, ci, As, c7, by rw [List.length_set, HLST.out], ?_, ?_, ?_, ?_⟩
      · rw [List.length_set]; exact Own.lower OI6 hw1
      · rw [← HLST.out]; exact Own.lower OS6 hw1
      · rw [List.length_set, ← HLST.out]; exact AP
      · exact (((below_then (below_then (below_then hb0 hb1) B5) hbF').setCell (by show w.heap.size ≤ w.heap.size + 1 + 1; omega) _).setCell (by show w.heap.size ≤ w.heap.size + 1 + 1; omega) _)
    · have hr0 : w.heap.size + 1 < w1.heap.size := by omega
      have hdel := delFunc 94 (w.heap.size + 1) (fun x => x == (n : Int)) (fun _ => True) (fun W => W.cell? ⟨w.heap.size + 1, 0, none⟩ = some (.int .i64 n)) enters94 (pred94 _ _) (fun W W' h hb => cell_below hb h) As cs w1.heap.size st w3 OS.out (by omega) p0 (fun _ _ => trivial) (fun W r j v hA h => by
        subst hA
        have := (own_rng OS.out) r rfl
        show (W.setCell _ _).cell? _ = _
        rw [cell_set_other (show w.heap.size + 1 ≠ r by omega)]; exact h)
      have HDEL := Lib.hid hdel
      clear hdel
      go_wp2_with fail
      refine HDEL.out.mono ?_
      rintro e w7 ⟨m7, c7, rfl, hm7, oD, hgD⟩
      have v0 := hgD.cell g0 (fun e => HNS.out e.symm)
      have v1 := hgD.cell g1 (fun e => HNS.out e.symm)
      have vf := grown_free hgD (cell_lt g0) (fun e => HNS.out e.symm) gF
      have OI7 := OwI.far OI.out hgD HAP.out
      have BW7 : Below w1.heap.size w1 w7 := hb6.grown hgD hwc (fun k hk => (own_rng OS.out k hk).1)
      have HLST : Hid (m7 = (becSt st n 1).length) := hm7
      have hoB := ownBlock_eq As m7 c7 st.length cs
      have DG0 : (w7.setCell ⟨g, 1, none⟩ (.slice As m7 c7)).cell? ⟨g, 0, none⟩ = some (.slice (some ⟨gi, 0, none⟩) is.length ci) := by rw [set_off (by decide)]; exact v0
      have DG1 : (w7.setCell ⟨g, 1, none⟩ (.slice As m7 c7)).cell? ⟨g, 1, none⟩ = some (.slice As m7 c7) := set_same v1
      have DGF : ∀ j, (w7.setCell ⟨g, 1, none⟩ (.slice As m7 c7)).frozen? ⟨g, j, none⟩ = false := fun j => by rw [frozen_set]; exact vf j
      have OIS : OwI w1.heap.size (w7.setCell ⟨g, 1, none⟩ (.slice As m7 c7)) (.slice (some ⟨gi, 0, none⟩) is.length ci) (is.set n 1) := OwI.far OI7 (only_setCells g [.slice As m7 c7] 1 w7) (.inr HNI.out)
      have OST : OwI w1.heap.size (w7.setCell ⟨g, 1, none⟩ (.slice As m7 c7)) (.slice As m7 c7) (becSt st n 1) := OwI.far oD (only_setCells g [.slice As m7 c7] 1 w7) (.inr (by rw [hoB]; exact HNS.out))
      have BW : Below w1.heap.size w1 (w7.setCell ⟨g, 1, none⟩ (.slice As m7 c7)) := BW7.setCell hg1 _
      have AP : (Value.slice (some ⟨gi, 0, none⟩) is.length ci).ownBlock = none ∨ (Value.slice (some ⟨gi, 0, none⟩) is.length ci).ownBlock ≠ (Value.slice As m7 c7).ownBlock := by rw [hoB]; exact HAP.out
      have vf1 := vf 1
      clear hoB hm7 hgD oD HDEL g0 g1 gF p0 BW7 OI7 hb6 OI OS vf
      go_wp2_with fail
      have hct := counted_any (some ⟨gi, 0, none⟩) As ci m7 c7 (is.set n 1) (w7.setCell ⟨g, 1, none⟩ (.slice As m7 c7)) OIS.sl.1 (by rw [List.length_set]; omega)
      have htv : talV (is.set n 1) = .agg #[.int .i64 (cn (is.set n 1) 0), .int .i64 (cn (is.set n 1) 1), .int .i64 (cn (is.set n 1) 2), .int .i64 (cn (is.set n 1) 3)] := by unfold talV; rw [all4_set HP4.out n 1 (by omega)]; rfl
      rw [htv, all4_set HP4.out n 1 (by omega), List.length_set] at hct
      have l0 := cn_le (is.set n 1) 0
      have l1 := cn_le (is.set n 1) 1
      have l2 := cn_le (is.set n 1) 2
      rw [List.length_set] at l0 l1 l2
      have FT := fun W => fits_any (cn (is.set n 1) 0) (cn (is.set n 1) 1) (cn (is.set n 1) 2) (cn (is.set n 1) 3) W (by omega) (by omega) (by omega)
      clear htv
      refine hct.mono ?_
      rintro e w4 ⟨rfl, hb4⟩
      clear hct
      have D0 := cell_below hb4 DG0
      have D1 := cell_below hb4 DG1
      have DF := free_below hb4 DG0 DGF
      have OI4 := Own.below OIS hb4
      have OS4 := Own.below OST hb4
      have B4 := below_then BW hb4
      go_upto_region 15 with fail
      have e0 := cell_alloc D0 (.cells #[.int .i64 (cn (is.set n 1) 0), .int .i64 (cn (is.set n 1) 1), .int .i64 (cn (is.set n 1) 2), .int .i64 (cn (is.set n 1) 3)] 87)
      have e1 := cell_alloc D1 (.cells #[.int .i64 (cn (is.set n 1) 0), .int .i64 (cn (is.set n 1) 1), .int .i64 (cn (is.set n 1) 2), .int .i64 (cn (is.set n 1) 3)] 87)
      have t0 := new_cell w4 #[.int .i64 (cn (is.set n 1) 0), .int .i64 (cn (is.set n 1) 1), .int .i64 (cn (is.set n 1) 2), .int .i64 (cn (is.set n 1) 3)] 87 0 _ rfl
      have t1 := new_cell w4 #[.int .i64 (cn (is.set n 1) 0), .int .i64 (cn (is.set n 1) 1), .int .i64 (cn (is.set n 1) 2), .int .i64 (cn (is.set n 1) 3)] 87 1 (.int .i64 (cn (is.set n 1) 1)) rfl
      have t2 := new_cell w4 #[.int .i64 (cn (is.set n 1) 0), .int .i64 (cn (is.set n 1) 1), .int .i64 (cn (is.set n 1) 2), .int .i64 (cn (is.set n 1) 3)] 87 2 (.int .i64 (cn (is.set n 1) 2)) rfl
      have t3 := new_cell w4 #[.int .i64 (cn (is.set n 1) 0), .int .i64 (cn (is.set n 1) 1), .int .i64 (cn (is.set n 1) 2), .int .i64 (cn (is.set n 1) 3)] 87 3 (.int .i64 (cn (is.set n 1) 3)) rfl
      have BN := below_new w4 (.cells #[.int .i64 (cn (is.set n 1) 0), .int .i64 (cn (is.set n 1) 1), .int .i64 (cn (is.set n 1) 2), .int .i64 (cn (is.set n 1) 3)] 87)
      have OI5 := Own.below OI4 BN
      have OS5 := Own.below OS4 BN
      have B5 := below_then B4 BN
      have r3 := cell_below B5 q3
      have r4 := cell_below B5 q4
      have r5 := free_below B5 q3 q5
      have hs4 := B4.size
      have t0' : (w4.alloc (.cells #[.int .i64 (cn (is.set n 1) 0), .int .i64 (cn (is.set n 1) 1), .int .i64 (cn (is.set n 1) 2), .int .i64 (cn (is.set n 1) 3)] 87)).cell? ⟨w4.heap.size, 0, none⟩ = some (.int .i64 (cn (is.set n 1) 0)) := t0
      clear t0 D0 D1 DF OI4 OS4 B4 BN hb4 DG0 DG1 DGF OIS OST BW
      generalize w4.alloc (.cells #[.int .i64 (cn (is.set n 1) 0), .int .i64 (cn (is.set n 1) 1), .int .i64 (cn (is.set n 1) 2), .int .i64 (cn (is.set n 1) 3)] 87) = w5 at *
      generalize w4.heap.size = g5 at *
      have hne1 : g ≠ w.heap.size + 1 + 1 := by omega
      have hne2 : g5 ≠ w.heap.size + 1 + 1 := by omega
      go_region_held3 (fun W => W.cell? ⟨g, 0, none⟩ = some (.slice (some ⟨gi, 0, none⟩) is.length ci) ∧ W.cell? ⟨g, 1, none⟩ = some (.slice As m7 c7) ∧ W.cell? ⟨g5, 0, none⟩ = some (.int .i64 (cn (is.set n 1) 0)) ∧ W.cell? ⟨g5, 1, none⟩ = some (.int .i64 (cn (is.set n 1) 1)) ∧ W.cell? ⟨g5, 2, none⟩ = some (.int .i64 (cn (is.set n 1) 2)) ∧ W.cell? ⟨g5, 3, none⟩ = some (.int .i64 (cn (is.set n 1) 3))) (first | exact ⟨e0, e1, t0', t1, t2, t3⟩ | exact ⟨cell_below hbF e0, cell_below hbF e1, cell_below hbF t0', cell_below hbF t1, cell_below hbF t2, cell_below hbF t3⟩ | exact ⟨set2_far (cell_below hbF e0) hne1, set2_far (cell_below hbF e1) hne1, set2_far (cell_below hbF t0') hne2, set2_far (cell_below hbF t1) hne2, set2_far (cell_below hbF t2) hne2, set2_far (cell_below hbF t3) hne2⟩) (first | (go_at_call 67; refine (FT _).mono ?_; rintro e wF ⟨rfl, hbF⟩; have s3 := cell_below hbF r3; have s4 := cell_below hbF r4; have s5 := free_below hbF r3 r5))
      go_wp2_with fail
      have hbF' : Below w5.heap.size w5 wF := ⟨hbF.os, hbF.tape, hbF.output, hbF.size, hbF.block⟩
      obtain ⟨z0, z1⟩ := set2 s3 s4 (.slice (some ⟨gi, 0, none⟩) is.length ci) (.slice As m7 c7)
      refine bodyPost_ret (v := .tuple #[.agg #[.slice (some ⟨gi, 0, none⟩) is.length ci, .slice As m7 c7], .bool (fitI (is.set n 1)), .int .i64 0]) (by simp [results, Try.results68, go_sem, z0, z1, fitI]) rfl ?_
      have OI6 := far_set (Own.below OI5 hbF') (ne_rng (own_rng OI5) (.inl hr8)) (.slice (some ⟨gi, 0, none⟩) is.length ci) (.slice As m7 c7)
      have OS6 := far_set (Own.below OS5 hbF') (ne_rng (own_rng OS5) (.inl hr8)) (.slice (some ⟨gi, 0, none⟩) is.length ci) (.slice As m7 c7)
      have hw1 : w.heap.size ≤ w1.heap.size := by omega
      refine ⟨some ⟨gi, 0, none⟩, ci, As, c7, by rw [List.length_set, HLST.out], ?_, ?_, ?_, ?_⟩
      · rw [List.length_set]; exact Own.lower OI6 hw1
      · rw [← HLST.out]; exact Own.lower OS6 hw1
      · rw [List.length_set, ← HLST.out]; exact AP
      · exact (((below_then (below_then (below_then hb0 hb1) B5) hbF').setCell (by show w.heap.size ≤ w.heap.size + 1 + 1; omega) _).setCell (by show w.heap.size ≤ w.heap.size + 1 + 1; omega) _)
    · have hsl1 : Sl encI 1 (w3.alloc (.cells #[.int .i64 n] 3)) (some ⟨w3.heap.size, 0, none⟩) [(n : Int)] := sl_lit encI_length w3 3 _ _ rfl
      have HSL1 := Lib.hid hsl1
      have ho3 : Own encI 1 3 w1.heap.size (w3.alloc (.cells #[.int .i64 n] 3)) (.slice As st.length cs) st := Own.below OS.out (below_new _ _)
      have HO3 := Lib.hid ho3
      obtain ⟨i0, hi0, hz0, hz1, hz2⟩ := info_parts info3
      clear hsl1 ho3
      go_wp2_with (at_builtin; go_must (refine wpList_append_at rfl (.tmp 66) (.tmp 68) 39 rfl w1.heap.size 3 i0 _ 8 Try.underlying39 hi0 hz0 hz1 hz2 rfl (by decide) encI_length encI_one (.slice As st.length cs) st rfl HO3.out (some ⟨w3.heap.size, 0, none⟩) 1 [(n : Int)] rfl HSL1.out (by simp only [List.length_cons, List.length_nil]; unfold maxLen; omega) (by simp only [List.length_cons, List.length_nil]; omega) (by rw [size_alloc]; omega) ?_); intro v' w7 hown7 hg7 hat7; obtain ⟨A7, m7, c7, rfl, hm7, oD⟩ := own_slice hown7; have hx7 := app_facts hb6 HNI.out HNS.out HAP.out OI.out OS.out g0 g1 gF hg1 hg7 hat7 oD hm7; obtain ⟨v0, v1, vf1, HLST, DG0, DG1, DGF, OIS, OST, BW, AP⟩ := hx7; clear hm7 hg7 oD hown7 hat7 g0 g1 gF p0 hb6 OI OS)
      have hct := counted_any (some ⟨gi, 0, none⟩) A7 ci m7 c7 (is.set n 2) (w7.setCell ⟨g, 1, none⟩ (.slice A7 m7 c7)) OIS.sl.1 (by rw [List.length_set]; omega)
      have htv : talV (is.set n 2) = .agg #[.int .i64 (cn (is.set n 2) 0), .int .i64 (cn (is.set n 2) 1), .int .i64 (cn (is.set n 2) 2), .int .i64 (cn (is.set n 2) 3)] := by unfold talV; rw [all4_set HP4.out n 2 (by omega)]; rfl
      rw [htv, all4_set HP4.out n 2 (by omega), List.length_set] at hct
      have l0 := cn_le (is.set n 2) 0
      have l1 := cn_le (is.set n 2) 1
      have l2 := cn_le (is.set n 2) 2
      rw [List.length_set] at l0 l1 l2
      have FT := fun W => fits_any (cn (is.set n 2) 0) (cn (is.set n 2) 1) (cn (is.set n 2) 2) (cn (is.set n 2) 3) W (by omega) (by omega) (by omega)
      clear htv
      refine hct.mono ?_
      rintro e w4 ⟨rfl, hb4⟩
      clear hct
      have D0 := cell_below hb4 DG0
      have D1 := cell_below hb4 DG1
      have DF := free_below hb4 DG0 DGF
      have OI4 := Own.below OIS hb4
      have OS4 := Own.below OST hb4
      have B4 := below_then BW hb4
      go_upto_region 15 with fail
      have e0 := cell_alloc D0 (.cells #[.int .i64 (cn (is.set n 2) 0), .int .i64 (cn (is.set n 2) 1), .int .i64 (cn (is.set n 2) 2), .int .i64 (cn (is.set n 2) 3)] 87)
      have e1 := cell_alloc D1 (.cells #[.int .i64 (cn (is.set n 2) 0), .int .i64 (cn (is.set n 2) 1), .int .i64 (cn (is.set n 2) 2), .int .i64 (cn (is.set n 2) 3)] 87)
      have t0 := new_cell w4 #[.int .i64 (cn (is.set n 2) 0), .int .i64 (cn (is.set n 2) 1), .int .i64 (cn (is.set n 2) 2), .int .i64 (cn (is.set n 2) 3)] 87 0 _ rfl
      have t1 := new_cell w4 #[.int .i64 (cn (is.set n 2) 0), .int .i64 (cn (is.set n 2) 1), .int .i64 (cn (is.set n 2) 2), .int .i64 (cn (is.set n 2) 3)] 87 1 (.int .i64 (cn (is.set n 2) 1)) rfl
      have t2 := new_cell w4 #[.int .i64 (cn (is.set n 2) 0), .int .i64 (cn (is.set n 2) 1), .int .i64 (cn (is.set n 2) 2), .int .i64 (cn (is.set n 2) 3)] 87 2 (.int .i64 (cn (is.set n 2) 2)) rfl
      have t3 := new_cell w4 #[.int .i64 (cn (is.set n 2) 0), .int .i64 (cn (is.set n 2) 1), .int .i64 (cn (is.set n 2) 2), .int .i64 (cn (is.set n 2) 3)] 87 3 (.int .i64 (cn (is.set n 2) 3)) rfl
      have BN := below_new w4 (.cells #[.int .i64 (cn (is.set n 2) 0), .int .i64 (cn (is.set n 2) 1), .int .i64 (cn (is.set n 2) 2), .int .i64 (cn (is.set n 2) 3)] 87)
      have OI5 := Own.below OI4 BN
      have OS5 := Own.below OS4 BN
      have B5 := below_then B4 BN
      have r3 := cell_below B5 q3
      have r4 := cell_below B5 q4
      have r5 := free_below B5 q3 q5
      have hs4 := B4.size
      have t0' : (w4.alloc (.cells #[.int .i64 (cn (is.set n 2) 0), .int .i64 (cn (is.set n 2) 1), .int .i64 (cn (is.set n 2) 2), .int .i64 (cn (is.set n 2) 3)] 87)).cell? ⟨w4.heap.size, 0, none⟩ = some (.int .i64 (cn (is.set n 2) 0)) := t0
      clear t0 D0 D1 DF OI4 OS4 B4 BN hb4 DG0 DG1 DGF OIS OST BW
      generalize w4.alloc (.cells #[.int .i64 (cn (is.set n 2) 0), .int .i64 (cn (is.set n 2) 1), .int .i64 (cn (is.set n 2) 2), .int .i64 (cn (is.set n 2) 3)] 87) = w5 at *
      generalize w4.heap.size = g5 at *
      have hne1 : g ≠ w.heap.size + 1 + 1 := by omega
      have hne2 : g5 ≠ w.heap.size + 1 + 1 := by omega
      go_region_held3 (fun W => W.cell? ⟨g, 0, none⟩ = some (.slice (some ⟨gi, 0, none⟩) is.length ci) ∧ W.cell? ⟨g, 1, none⟩ = some (.slice A7 m7 c7) ∧ W.cell? ⟨g5, 0, none⟩ = some (.int .i64 (cn (is.set n 2) 0)) ∧ W.cell? ⟨g5, 1, none⟩ = some (.int .i64 (cn (is.set n 2) 1)) ∧ W.cell? ⟨g5, 2, none⟩ = some (.int .i64 (cn (is.set n 2) 2)) ∧ W.cell? ⟨g5, 3, none⟩ = some (.int .i64 (cn (is.set n 2) 3))) (first | exact ⟨e0, e1, t0', t1, t2, t3⟩ | exact ⟨cell_below hbF e0, cell_below hbF e1, cell_below hbF t0', cell_below hbF t1, cell_below hbF t2, cell_below hbF t3⟩ | exact ⟨set2_far (cell_below hbF e0) hne1, set2_far (cell_below hbF e1) hne1, set2_far (cell_below hbF t0') hne2, set2_far (cell_below hbF t1) hne2, set2_far (cell_below hbF t2) hne2, set2_far (cell_below hbF t3) hne2⟩) (first | (go_at_call 67; refine (FT _).mono ?_; rintro e wF ⟨rfl, hbF⟩; have s3 := cell_below hbF r3; have s4 := cell_below hbF r4; have s5 := free_below hbF r3 r5))
      go_wp2_with fail
      have hbF' : Below w5.heap.size w5 wF := ⟨hbF.os, hbF.tape, hbF.output, hbF.size, hbF.block⟩
      obtain ⟨z0, z1⟩ := set2 s3 s4 (.slice (some ⟨gi, 0, none⟩) is.length ci) (.slice A7 m7 c7)
      refine bodyPost_ret (v := .tuple #[.agg #[.slice (some ⟨gi, 0, none⟩) is.length ci, .slice A7 m7 c7], .bool (fitI (is.set n 2)), .int .i64 0]) (by simp [results, Try.results68, go_sem, z0, z1, fitI]) rfl ?_
      have OI6 := far_set (Own.below OI5 hbF') (ne_rng (own_rng OI5) (.inl hr8)) (.slice (some ⟨gi, 0, none⟩) is.length ci) (.slice A7 m7 c7)
      have OS6 := far_set (Own.below OS5 hbF') (ne_rng (own_rng OS5) (.inl hr8)) (.slice (some ⟨gi, 0, none⟩) is.length ci) (.slice A7 m7 c7)
      have hw1 : w.heap.size ≤ w1.heap.size := by omega
      refine ⟨some ⟨gi, 0, none⟩, ci, A7, c7, by rw [List.length_set, HLST.out], ?_, ?_, ?_, ?_⟩
      · rw [List.length_set]; exact Own.lower OI6 hw1
      · rw [← HLST.out]; exact Own.lower OS6 hw1
      · rw [List.length_set, ← HLST.out]; exact AP
      · exact (((below_then (below_then (below_then hb0 hb1) B5) hbF').setCell (by show w.heap.size ≤ w.heap.size + 1 + 1; omega) _).setCell (by show w.heap.size ≤ w.heap.size + 1 + 1; omega) _)
    · have DG0 := g0
      have DG1 := g1
      have DGF := gF
      have OIS := OI.out
      have OST := OS.out
      have BW := hb6
      have HLST : Hid (st.length = (becSt st n 3).length) := by show _ = _; unfold becSt; simp
      have AP := HAP.out
      clear g0 g1 gF hb6
      go_wp2_with fail
      have hct := counted_any (some ⟨gi, 0, none⟩) As ci st.length cs (is.set n 3) w3 OIS.sl.1 (by rw [List.length_set]; omega)
      have htv : talV (is.set n 3) = .agg #[.int .i64 (cn (is.set n 3) 0), .int .i64 (cn (is.set n 3) 1), .int .i64 (cn (is.set n 3) 2), .int .i64 (cn (is.set n 3) 3)] := by unfold talV; rw [all4_set HP4.out n 3 (by omega)]; rfl
      rw [htv, all4_set HP4.out n 3 (by omega), List.length_set] at hct
      have l0 := cn_le (is.set n 3) 0
      have l1 := cn_le (is.set n 3) 1
      have l2 := cn_le (is.set n 3) 2
      rw [List.length_set] at l0 l1 l2
      have FT := fun W => fits_any (cn (is.set n 3) 0) (cn (is.set n 3) 1) (cn (is.set n 3) 2) (cn (is.set n 3) 3) W (by omega) (by omega) (by omega)
      clear htv
      refine hct.mono ?_
      rintro e w4 ⟨rfl, hb4⟩
      clear hct
      have D0 := cell_below hb4 DG0
      have D1 := cell_below hb4 DG1
      have DF := free_below hb4 DG0 DGF
      have OI4 := Own.below OIS hb4
      have OS4 := Own.below OST hb4
      have B4 := below_then BW hb4
      go_upto_region 15 with fail
      have e0 := cell_alloc D0 (.cells #[.int .i64 (cn (is.set n 3) 0), .int .i64 (cn (is.set n 3) 1), .int .i64 (cn (is.set n 3) 2), .int .i64 (cn (is.set n 3) 3)] 87)
      have e1 := cell_alloc D1 (.cells #[.int .i64 (cn (is.set n 3) 0), .int .i64 (cn (is.set n 3) 1), .int .i64 (cn (is.set n 3) 2), .int .i64 (cn (is.set n 3) 3)] 87)
      have t0 := new_cell w4 #[.int .i64 (cn (is.set n 3) 0), .int .i64 (cn (is.set n 3) 1), .int .i64 (cn (is.set n 3) 2), .int .i64 (cn (is.set n 3) 3)] 87 0 _ rfl
      have t1 := new_cell w4 #[.int .i64 (cn (is.set n 3) 0), .int .i64 (cn (is.set n 3) 1), .int .i64 (cn (is.set n 3) 2), .int .i64 (cn (is.set n 3) 3)] 87 1 (.int .i64 (cn (is.set n 3) 1)) rfl
      have t2 := new_cell w4 #[.int .i64 (cn (is.set n 3) 0), .int .i64 (cn (is.set n 3) 1), .int .i64 (cn (is.set n 3) 2), .int .i64 (cn (is.set n 3) 3)] 87 2 (.int .i64 (cn (is.set n 3) 2)) rfl
      have t3 := new_cell w4 #[.int .i64 (cn (is.set n 3) 0), .int .i64 (cn (is.set n 3) 1), .int .i64 (cn (is.set n 3) 2), .int .i64 (cn (is.set n 3) 3)] 87 3 (.int .i64 (cn (is.set n 3) 3)) rfl
      have BN := below_new w4 (.cells #[.int .i64 (cn (is.set n 3) 0), .int .i64 (cn (is.set n 3) 1), .int .i64 (cn (is.set n 3) 2), .int .i64 (cn (is.set n 3) 3)] 87)
      have OI5 := Own.below OI4 BN
      have OS5 := Own.below OS4 BN
      have B5 := below_then B4 BN
      have r3 := cell_below B5 q3
      have r4 := cell_below B5 q4
      have r5 := free_below B5 q3 q5
      have hs4 := B4.size
      have t0' : (w4.alloc (.cells #[.int .i64 (cn (is.set n 3) 0), .int .i64 (cn (is.set n 3) 1), .int .i64 (cn (is.set n 3) 2), .int .i64 (cn (is.set n 3) 3)] 87)).cell? ⟨w4.heap.size, 0, none⟩ = some (.int .i64 (cn (is.set n 3) 0)) := t0
      clear t0 D0 D1 DF OI4 OS4 B4 BN hb4 DG0 DG1 DGF OIS OST BW
      generalize w4.alloc (.cells #[.int .i64 (cn (is.set n 3) 0), .int .i64 (cn (is.set n 3) 1), .int .i64 (cn (is.set n 3) 2), .int .i64 (cn (is.set n 3) 3)] 87) = w5 at *
      generalize w4.heap.size = g5 at *
      have hne1 : g ≠ w.heap.size + 1 + 1 := by omega
      have hne2 : g5 ≠ w.heap.size + 1 + 1 := by omega
      go_region_held3 (fun W => W.cell? ⟨g, 0, none⟩ = some (.slice (some ⟨gi, 0, none⟩) is.length ci) ∧ W.cell? ⟨g, 1, none⟩ = some (.slice As st.length cs) ∧ W.cell? ⟨g5, 0, none⟩ = some (.int .i64 (cn (is.set n 3) 0)) ∧ W.cell? ⟨g5, 1, none⟩ = some (.int .i64 (cn (is.set n 3) 1)) ∧ W.cell? ⟨g5, 2, none⟩ = some (.int .i64 (cn (is.set n 3) 2)) ∧ W.cell? ⟨g5, 3, none⟩ = some (.int .i64 (cn (is.set n 3) 3))) (first | exact ⟨e0, e1, t0', t1, t2, t3⟩ | exact ⟨cell_below hbF e0, cell_below hbF e1, cell_below hbF t0', cell_below hbF t1, cell_below hbF t2, cell_below hbF t3⟩ | exact ⟨set2_far (cell_below hbF e0) hne1, set2_far (cell_below hbF e1) hne1, set2_far (cell_below hbF t0') hne2, set2_far (cell_below hbF t1) hne2, set2_far (cell_below hbF t2) hne2, set2_far (cell_below hbF t3) hne2⟩) (first | (go_at_call 67; refine (FT _).mono ?_; rintro e wF ⟨rfl, hbF⟩; have s3 := cell_below hbF r3; have s4 := cell_below hbF r4; have s5 := free_below hbF r3 r5))
      go_wp2_with fail
      have hbF' : Below w5.heap.size w5 wF := ⟨hbF.os, hbF.tape, hbF.output, hbF.size, hbF.block⟩
      obtain ⟨z0, z1⟩ := set2 s3 s4 (.slice (some ⟨gi, 0, none⟩) is.length ci) (.slice As st.length cs)
      refine bodyPost_ret (v := .tuple #[.agg #[.slice (some ⟨gi, 0, none⟩) is.length ci, .slice As st.length cs], .bool (fitI (is.set n 3)), .int .i64 0]) (by simp [results, Try.results68, go_sem, z0, z1, fitI]) rfl ?_
      have OI6 := far_set (Own.below OI5 hbF') (ne_rng (own_rng OI5) (.inl hr8)) (.slice (some ⟨gi, 0, none⟩) is.length ci) (.slice As st.length cs)
      have OS6 := far_set (Own.below OS5 hbF') (ne_rng (own_rng OS5) (.inl hr8)) (.slice (some ⟨gi, 0, none⟩) is.length ci) (.slice As st.length cs)
      have hw1 : w.heap.size ≤ w1.heap.size := by omega
      refine ⟨some ⟨gi, 0, none⟩, ci, As, cs, by rw [List.length_set, HLST.out], ?_, ?_, ?_, ?_⟩
      · rw [List.length_set]; exact Own.lower OI6 hw1
      · rw [← HLST.out]; exact Own.lower OS6 hw1
      · rw [List.length_set, ← HLST.out]; exact AP
      · exact (((below_then (below_then (below_then hb0 hb1) B5) hbF').setCell (by show w.heap.size ≤ w.heap.size + 1 + 1; omega) _).setCell (by show w.heap.size ≤ w.heap.size + 1 + 1; omega) _)
end Go.Proofs.Ytdalnaegjclacaa
