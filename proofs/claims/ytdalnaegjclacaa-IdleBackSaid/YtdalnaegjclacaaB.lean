/- ints: slices.Clone, Index, Contains, IndexFunc, ContainsFunc, DeleteFunc, Equal. -/
import Derived.Test.YtdalnaegjclacaaA
namespace Go.Proofs.Ytdalnaegjclacaa
open Go.RowKit

theorem info3 : (Try.prog.info? 3).map (fun i => (i.zero, i.size, i.bytes)) = some (some (.int .i64 0), 1, 8) := by kernel_rfl
theorem own_empty (w : World) (base : Nat) (e : TypeId) (size : Nat) (hb : base ≤ w.heap.size) : (w.alloc (.cells #[] e)).ownsRow base e size (.slice (some ⟨w.heap.size, 0, none⟩) 0 0) 0 [] :=
  World.ownsRow_made w #[] 0 hb (by decide) (by simp)
theorem drewN_drewN (w : World) (m n : Nat) : (w.drewN m).drewN n = w.drewN (m + n) := by simp [World.drewN, Nat.add_assoc]

/-! own rows of ints -/
abbrev OwI (base : Nat) (w : World) (v : Value) (xs : List Int) : Prop := Own encI 1 3 base w v xs
theorem OwI.form {w : World} {v : Value} {base : Nat} {xs : List Int} (h : OwI base w v xs) (h0 : 0 < xs.length) : ∃ g cap, v = .slice (some ⟨g, 0, none⟩) xs.length cap ∧ base ≤ g ∧ g < w.heap.size := by
  have h' : Own encI 1 3 base w v xs := h
  unfold Own at h'
  obtain ⟨g, cap, hv, hb, hg⟩ := h'.form h0
  exact ⟨g, cap, hv, hb, hg⟩
theorem OwI.sl {w : World} {base : Nat} {A : Option Addr} {n c : Nat} {xs : List Int} (h : OwI base w (.slice A n c) xs) : Sl encI 1 w A xs ∧ n = xs.length ∧ xs.length ≤ c := by
  obtain ⟨A', c', hv, hs, hl⟩ := Own.sl encI_length h
  simp only [Value.slice.injEq] at hv
  obtain ⟨rfl, rfl, rfl⟩ := hv
  exact ⟨hs, rfl, hl⟩
theorem OwI.cells {w : World} {base g n cap : Nat} {xs : List Int} (h : OwI base w (.slice (some ⟨g, 0, none⟩) n cap) xs) (i : Nat) (hi : i < xs.length) :
    base ≤ g ∧ w.cell? ⟨g, i, none⟩ = some (.int .i64 xs[i]) ∧ (∀ j, w.frozen? ⟨g, j, none⟩ = false) := by
  obtain ⟨_, hn, _⟩ := h.sl
  subst hn
  obtain ⟨g', cap', hv, hb, _⟩ := h.form (by omega)
  have h' : Own encI 1 3 base w (.slice (some ⟨g, 0, none⟩) xs.length cap) xs := h
  unfold Own at h'
  have hc := fun j (hj : j < xs.length * 1) => h'.cellAt (n := xs.length) j hj
  have hf := fun j (hj : j < 1) => flat_get (enc := encI) encI_length i hi j hj
  refine ⟨?_, ?_, fun j => h'.frozenAt j⟩
  · simp only [Value.slice.injEq, Option.some.injEq, Addr.mk.injEq, and_true, true_and] at hv; omega
  · rw [hc i (by omega)]; have := hf 0 (by omega); rw [Nat.mul_one, Nat.add_zero] at this; rw [this]; rfl
theorem OwI.set {w : World} {base g n cap : Nat} {xs : List Int} (h : OwI base w (.slice (some ⟨g, 0, none⟩) n cap) xs) (i : Nat) (hi : i < xs.length) (v : Int) :
    OwI base (w.setCell ⟨g, i, none⟩ (.int .i64 v)) (.slice (some ⟨g, 0, none⟩) n cap) (xs.set i v) ∧ w.grownBy (w.setCell ⟨g, i, none⟩ (.int .i64 v)) (some g) := by
  obtain ⟨_, hn, _⟩ := h.sl
  subst hn
  have h' : Own encI 1 3 base w (.slice (some ⟨g, 0, none⟩) xs.length cap) xs := h
  unfold Own at h'
  obtain ⟨h2, h3⟩ := h'.stored i (.int .i64 v)
  have hs := flat_set (enc := encI) encI_length i hi 0 (by omega) (.int .i64 v) v (by simp [encI])
  rw [Nat.mul_one, Nat.add_zero] at hs
  rw [hs] at h2
  refine ⟨?_, h3⟩
  show Own encI 1 3 base _ _ _
  unfold Own; rw [List.length_set]; exact h2

/-! only one block has turned -/
theorem only_of_below {a w : World} (h : Below a.heap.size a w) (row : Option Nat) : a.grownBy w row := ⟨h.os, h.tape, h.output, h.size, fun i hi _ => h.block i hi⟩
theorem only_trans {a b c : World} {row : Option Nat} (h : a.grownBy b row) (k : b.grownBy c row) : a.grownBy c row :=
  ⟨k.os.trans h.os, k.tape.trans h.tape, k.output.trans h.output, Nat.le_trans h.size k.size, fun i hi hne => (k.block i (Nat.lt_of_lt_of_le hi h.size) hne).trans (h.block i hi hne)⟩
theorem only_setCells (g : Nat) : ∀ (l : List Value) (o : Nat) (w : World), w.grownBy (w.setCells g o l) (some g)
  | [], _, w => World.grownBy.refl w _
  | v :: r, o, w => by
    have h1 : w.grownBy (w.setCell ⟨g, o, none⟩ v) (some g) := ⟨rfl, rfl, rfl, by simp [World.setCell], fun i _ hne => Below.heap_setCell w _ _ i (fun e => hne (by rw [e]))⟩
    exact only_trans h1 (only_setCells g r (o + 1) _)
theorem below_only {B : Nat} {w w1 w2 : World} {g : Nat} (h : Below B w w1) (k : w1.grownBy w2 (some g)) (hB : B ≤ w1.heap.size) (hg : B ≤ g) : Below B w w2 :=
  h.grown k hB (fun i hi => by simp at hi; omega)
theorem OwI.far {w w' : World} {base : Nat} {v : Value} {xs : List Int} {row : Option Nat} (h : OwI base w v xs) (hg : w.grownBy w' row) (hne : v.ownBlock = none ∨ v.ownBlock ≠ row) : OwI base w' v xs := by
  have h' : Own encI 1 3 base w v xs := h
  unfold Own at h'
  show Own encI 1 3 base w' v xs
  unfold Own
  exact h'.kept hg hne

set_option maxHeartbeats 1000000 in
theorem clone_int (A : Option Addr) (c : Nat) (xs : List Int) (w : World) (hx : Sl encI 1 w A xs) (hn : xs.length ≤ 1000000) :
    Calls Try.prog 93 #[.slice A xs.length c] w fun e w' => ∃ v, e = .returned v ∧ OwI w.heap.size w' v xs ∧ Below w.heap.size w w' := by
  obtain ⟨i0, hi0, hz0, hz1, hz2⟩ := info_parts info3
  have hnil := fun W => Lib.run_eql_slice_nil (P := Try.prog) W 39 3 A xs.length c 0 0 Try.underlying39
  have hx0 := hx.alloc (.cells #[] 3)
  have he : Own encI 1 3 w.heap.size (w.alloc (.cells #[] 3)) (.slice (some ⟨w.heap.size, 0, none⟩) 0 0) [] := own_empty w _ 3 1 (Nat.le_refl _)
  have HE := Lib.hid he
  clear he
  cases A with
  | none =>
    have hx1 : xs = [] := by
      cases xs with
      | nil => rfl
      | cons y l => obtain ⟨b, off, hA, _⟩ := hx (by simp); cases hA
    subst hx1
    clear hnil
    have hnil := fun W => Lib.run_eql_slice_nil (P := Try.prog) W 39 3 none 0 c 0 0 Try.underlying39
    simp only [Option.isNone_none] at hnil
    rw [List.length_nil]
    go_enter Try.func93, Try.ntmps93
    go_wp2_with fail
    go_ret
    exact ⟨_, rfl, World.ownsRow_nil w _ 3 1, Below.refl _ _⟩
  | some ad =>
    simp only [Option.isNone_some] at hnil
    go_enter Try.func93, Try.ntmps93
    go_wp2_with (at_builtin; go_must (refine wpList_append_sl rfl (.tmp 5) (.tmp 6) 39 rfl w.heap.size 3 i0 _ 8 Try.underlying39 hi0 hz0 hz1 hz2 rfl (by decide) encI_length encI_one (.slice (some ⟨w.heap.size, 0, none⟩) 0 0) [] rfl HE.out (some ad) c xs rfl hx0 (by simp only [List.length_nil]; unfold maxLen; omega) (by simp only [List.length_nil]; omega) (by simp) ?_); intro v' w1 hown1 hg1)
    go_ret
    refine ⟨v', rfl, ?_, ?_⟩
    · rw [List.nil_append] at hown1; exact hown1
    · refine ((Below.refl _ _).alloc (Nat.le_refl _) _).grown hg1 (by simp) ?_
      intro k hk
      simp [Value.ownBlock] at hk
      omega

set_option maxHeartbeats 1000000 in
theorem index_int (A : Option Addr) (c : Nat) (xs : List Int) (v : Int) (w : World) (hx : Sl encI 1 w A xs) (hbig : xs.length ≤ 9223372036854775807) :
    Calls Try.prog 103 #[.slice A xs.length c, .int .i64 v] w fun e w' => ∃ q : Int, e = .returned (.int .i64 q) ∧ (decide (q ≥ 0) = decide (v ∈ xs)) ∧ w = w' := by
  go_enter Try.func103, Try.ntmps103
  go_wp2
  go_loopg [5, 8] xs.length (fun gg _ s8 wr => ∃ kk : Nat, kk ≤ xs.length ∧ xs.length - kk ≤ gg ∧ s8 = .int .i64 kk ∧ wr = w ∧ Aside (∀ j, (hj : j < kk) → ∀ hl : j < xs.length, xs[j] ≠ v))
  case atStart => exact ⟨0, Nat.zero_le _, by omega, rfl, rfl, fun j hj => absurd hj (Nat.not_lt_zero _)⟩
  case round =>
    obtain ⟨kk, hkk, hg, rfl, rfl, NO⟩ := hrel
    by_cases hlt : kk < xs.length
    · obtain ⟨b, off, rfl, c0⟩ := hx.int_at kk hlt
      clear hx
      by_cases hq : v = xs[kk]
      · have hb : (v == xs[kk]) = true := by simpa using hq
        have HQ := Lib.hid hq; clear hq
        go_wp2
        go_ret
        refine ⟨(kk : Int), rfl, ?_, rfl⟩
        have : v ∈ xs := by rw [HQ.out]; exact List.getElem_mem hlt
        simp [this]
      · have hb : (v == xs[kk]) = false := by simpa using hq
        have HQ := Lib.hid hq; clear hq
        go_wp2
        go_roundg (xs.length - (kk + 1))
        case measure => omega
        case rel =>
          refine ⟨kk + 1, by omega, by omega, by go_num, rfl, (show Aside _ from fun j hj hl => ?_)⟩
          by_cases e : j = kk
          · subst e; exact fun h => HQ.out h.symm
          · exact NO.out j (by omega) hl
    · have : kk = xs.length := by omega
      go_wp2
      go_ret
      refine ⟨-1, rfl, ?_, rfl⟩
      have : v ∉ xs := by
        intro h
        obtain ⟨j, hj, e⟩ := List.getElem_of_mem h
        exact NO.out j (by omega) hj e
      simp [this]
theorem contains_int (A : Option Addr) (c : Nat) (xs : List Int) (v : Int) (w : World) (hx : Sl encI 1 w A xs) (hbig : xs.length ≤ 9223372036854775807) :
    Calls Try.prog 92 #[.slice A xs.length c, .int .i64 v] w fun e w' => e = .returned (.bool (decide (v ∈ xs))) ∧ w = w' := by
  have hi := index_int A c xs v w hx hbig
  have hi2 : Calls Try.prog 103 #[.slice A xs.length c, .int .i64 v] w fun e w' => ∃ q : Int, e = .returned (.int .i64 q) ∧ Hid (decide (q ≥ 0) = decide (v ∈ xs)) ∧ w = w' := hi
  clear hi hx
  generalize decide (v ∈ xs) = r at *
  go_enter Try.func92, Try.ntmps92
  go_wp2_with (go_at_call 103; refine hi2.mono ?_; rintro e w1 ⟨q, rfl, HQ, rfl⟩)
  go_ret
  exact ⟨ret_bool HQ.out, rfl⟩

def idxOf {α : Type} (p : α → Bool) (xs : List α) : Int := match xs.findIdx? p with | some i => (i : Int) | none => -1
theorem idxOf_hit {α : Type} (p : α → Bool) (xs : List α) (k : Nat) (hk : k < xs.length) (h : p xs[k] = true) (hno : ∀ j, (hj : j < k) → p (xs[j]'(by omega)) = false) : idxOf p xs = (k : Int) := by
  unfold idxOf
  have : xs.findIdx? p = some k := by
    rw [List.findIdx?_eq_some_iff_getElem]
    exact ⟨hk, h, fun j hj => by simp [hno j hj]⟩
  rw [this]
theorem idxOf_miss {α : Type} (p : α → Bool) (xs : List α) (hno : ∀ j, (hj : j < xs.length) → p xs[j] = false) : idxOf p xs = -1 := by
  unfold idxOf
  have : xs.findIdx? p = none := by
    rw [List.findIdx?_eq_none_iff]
    intro x hx
    obtain ⟨j, hj, rfl⟩ := List.getElem_of_mem hx
    exact hno j hj
  rw [this]
theorem idxOf_cases {α : Type} (p : α → Bool) (xs : List α) : (idxOf p xs = -1 ∧ ∀ j, ∀ hj : j < xs.length, p xs[j] = false) ∨ ∃ k, ∃ h : k < xs.length, idxOf p xs = (k : Int) ∧ p xs[k] = true ∧ ∀ j, (hj : j < k) → p (xs[j]'(by omega)) = false := by
  unfold idxOf
  cases h : xs.findIdx? p with
  | none =>
    refine .inl ⟨rfl, fun j hj => ?_⟩
    rw [List.findIdx?_eq_none_iff] at h
    simpa using h xs[j] (List.getElem_mem hj)
  | some k =>
    rw [List.findIdx?_eq_some_iff_getElem] at h
    obtain ⟨hk, hp, hno⟩ := h
    exact .inr ⟨k, hk, rfl, hp, fun j hj => by simpa using hno j hj⟩

/-- What a closure over one variable does, at numbers of D, in worlds of S. -/
def PredS (g B : Nat) (p : Int → Bool) (D : Int → Prop) (S : World → Prop) : Prop := ∀ (W : World) (x : Int), D x → S W →
  Calls Try.prog g #[.int .i64 x, .pointer (some ⟨B, 0, none⟩)] W fun e w' => e = .returned (.bool (p x)) ∧ Below W.heap.size W w'

set_option maxHeartbeats 1000000 in
theorem indexFunc (g B : Nat) (p : Int → Bool) (D : Int → Prop) (S : World → Prop) (eg : ∀ args w, (callFunc g args).run Try.prog w = .ok (.enter g args) w) (hp : PredS g B p D S) (hS : ∀ W W', S W → Below W.heap.size W W' → S W') (A : Option Addr) (c : Nat) (xs : List Int) (w : World) (hx : Sl encI 1 w A xs) (hbig : xs.length ≤ 9223372036854775807) (hw : S w) (hD : ∀ x ∈ xs, D x) :
    Calls Try.prog 81 #[.slice A xs.length c, .func (.func g) #[] #[.pointer (some ⟨B, 0, none⟩)]] w fun e w' => e = .returned (.int .i64 (idxOf p xs)) ∧ Below w.heap.size w w' := by
  go_enter Try.func81, Try.ntmps81
  go_wp2
  go_loopg [5, 8] xs.length (fun gg _ s8 wr => ∃ kk : Nat, kk ≤ xs.length ∧ xs.length - kk ≤ gg ∧ s8 = .int .i64 kk ∧ Aside (Below w.heap.size w wr) ∧ Aside (∀ j, (hj : j < kk) → ∀ hl : j < xs.length, p xs[j] = false))
  case atStart => exact ⟨0, Nat.zero_le _, by omega, rfl, Below.refl _ w, fun j hj => absurd hj (Nat.not_lt_zero _)⟩
  case round =>
    obtain ⟨kk, hkk, hg, rfl, BW, NO⟩ := hrel
    by_cases hlt : kk < xs.length
    · obtain ⟨b, off, rfl, c0⟩ := (hx.below BW.out).int_at kk hlt
      have hcall := hp wr xs[kk] (hD _ (List.getElem_mem hlt)) (hS _ _ hw BW.out)
      clear hx hp hS hD hw
      cases hq : p xs[kk] with
      | true =>
        rw [hq] at hcall
        have HQ := Lib.hid hq; clear hq
        go_wp2_with (go_at_fn g; refine hcall.mono ?_; rintro e w' ⟨rfl, hb'⟩)
        go_ret
        refine ⟨?_, BW.out.trans (hb'.mono BW.out.size)⟩
        exact ret_int (idxOf_hit p xs kk hlt HQ.out (fun j hj => NO.out j hj (by omega))).symm
      | false =>
        rw [hq] at hcall
        have HQ := Lib.hid hq; clear hq
        go_wp2_with (go_at_fn g; refine hcall.mono ?_; rintro e w' ⟨rfl, hb'⟩)
        go_roundg (xs.length - (kk + 1))
        case measure => omega
        case rel =>
          refine ⟨kk + 1, by omega, by omega, by go_num, BW.out.trans (hb'.mono BW.out.size), (show Aside _ from fun j hj hl => ?_)⟩
          by_cases e : j = kk
          · subst e
            exact HQ.out
          · exact NO.out j (by omega) hl
    · have : kk = xs.length := by omega
      go_wp2
      go_ret
      refine ⟨?_, BW.out⟩
      exact ret_int (idxOf_miss p xs (fun j hj => NO.out j (by omega) hj)).symm

set_option maxHeartbeats 2000000 in
theorem equal_int (A B : Option Addr) (c d : Nat) (xs ys : List Int) (w : World) (hx : Sl encI 1 w A xs) (hy : Sl encI 1 w B ys) (hbig : xs.length ≤ 9223372036854775807) :
    Calls Try.prog 69 #[.slice A xs.length c, .slice B ys.length d] w fun e w' => e = .returned (.bool (decide (xs = ys))) ∧ ∃ nq, w' = w.drewN nq := by
  by_cases hl : xs.length = ys.length
  case neg =>
    have hne : ((xs.length : Int) != (ys.length : Int)) = true := by simp; omega
    have hd : Hid (decide (xs = ys) = false) := by show _ = _; rw [decide_eq_false_iff_not]; rintro rfl; exact hl rfl
    clear hl
    go_enter Try.func69, Try.ntmps69
    go_wp2_with fail
    go_ret
    exact ⟨ret_bool hd.out.symm, 0, rfl⟩
  case pos =>
    obtain ⟨n, hn⟩ : ∃ n, n = xs.length := ⟨_, rfl⟩
    rw [← hl, ← hn]
    have HX := Lib.hid hn.symm
    have HY := Lib.hid (hl.symm.trans hn.symm)
    rw [← hn] at hbig
    clear hl hn
    go_enter Try.func69, Try.ntmps69
    go_wp2_with fail
    go_loopg [5, 13] n (fun gg _ s13 wr => ∃ kk : Nat, kk ≤ n ∧ n - kk ≤ gg ∧ s13 = .int .i64 kk ∧ Aside (∃ nq, wr = w.drewN nq) ∧ Aside (xs.take kk = ys.take kk))
    case atStart => exact ⟨0, Nat.zero_le _, by omega, rfl, ⟨0, rfl⟩, rfl⟩
    case round =>
      obtain ⟨kk, hkk, hg, rfl, ⟨nq, rfl⟩, TK⟩ := hrel
      by_cases hlt : kk < n
      · have h1 : kk < xs.length := by rw [HX.out]; exact hlt
        have h2 : kk < ys.length := by rw [HY.out]; exact hlt
        obtain ⟨b1, o1, rfl, p0⟩ := (hx.drewN nq).int_at kk h1
        obtain ⟨b2, o2, rfl, t0⟩ := (hy.drewN nq).int_at kk h2
        have z0 : (0 : Int) ≤ (kk : Int) := by omega
        have z1 : (kk : Int) < (n : Int) := by omega
        have DN := Lib.hid (drewN_drewN w nq)
        clear hx hy
        generalize w.drewN nq = w7 at *
        by_cases he : xs[kk] = ys[kk]
        · have hb : (xs[kk] != ys[kk]) = false := by simpa using he
          have HE := Lib.hid he
          clear he
          go_wp2_with fail
          go_quiet (fail)
          go_wp2_with fail
          go_roundg (n - (kk + 1))
          case measure => omega
          case rel =>
            refine ⟨kk + 1, by omega, by omega, by go_num, ⟨_, DN.out _⟩, ?_⟩
            show _ = _
            rw [List.take_succ_eq_append_getElem h1, List.take_succ_eq_append_getElem h2, TK.out, HE.out]
        · have hb : (xs[kk] != ys[kk]) = true := by simpa using he
          have hd : Hid (decide (xs = ys) = false) := by show _ = _; rw [decide_eq_false_iff_not]; rintro rfl; exact he rfl
          clear he
          go_wp2_with fail
          go_quiet (fail)
          go_wp2_with fail
          go_ret
          exact ⟨ret_bool hd.out.symm, _, DN.out _⟩
      · have hkx : kk = n := by omega
        have hd : Hid (decide (xs = ys) = true) := by
          show _ = _
          rw [decide_eq_true_eq]
          have := TK.out
          rw [List.take_of_length_le (by rw [HX.out]; omega), List.take_of_length_le (by rw [HY.out]; omega)] at this
          exact this
        clear hkx
        go_wp2_with fail
        go_ret
        exact ⟨ret_bool hd.out.symm, nq, rfl⟩
end Go.Proofs.Ytdalnaegjclacaa
