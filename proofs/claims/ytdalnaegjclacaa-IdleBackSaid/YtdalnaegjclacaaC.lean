/- ints: slices.DeleteFunc on a row of the call's own. -/
import Derived.Test.YtdalnaegjclacaaB
namespace Go.Proofs.Ytdalnaegjclacaa
open Go.RowKit

theorem zero3 (w : World) : (zeroValue 3).run Try.prog w = .ok (.int .i64 0) w := by kernel_rfl
/-- The row behind some rounds: the first i are those kept of the first j, the rest from j on is as it was. -/
def Mid (base : Nat) (w wr : World) (r n cap : Nat) (p : Int → Bool) (xs : List Int) (i j : Nat) : Prop :=
  ∃ ys : List Int, ys.length = n ∧ OwI base wr (.slice (some ⟨r, 0, none⟩) n cap) ys ∧ ys.take i = (xs.take j).filter (fun x => !p x) ∧ ys.drop j = xs.drop j ∧ w.grownBy wr (some r)

theorem filter_step {p : Int → Bool} {xs : List Int} {j : Nat} (h : j < xs.length) : (xs.take (j + 1)).filter (fun x => !p x) = (xs.take j).filter (fun x => !p x) ++ (if p xs[j] = true then [] else [xs[j]]) := by
  rw [List.take_succ_eq_append_getElem h, List.filter_append]
  congr 1
  cases hp : p xs[j] <;> simp [hp]
theorem Mid.skip {base : Nat} {w wr w2 : World} {r n cap : Nat} {p : Int → Bool} {xs : List Int} {i j : Nat} (h : Mid base w wr r n cap p xs i j) (hb : Below wr.heap.size wr w2) (hn : xs.length = n) (hj : j < n) (hp : p (xs[j]'(by omega)) = true) : Mid base w w2 r n cap p xs i (j + 1) := by
  obtain ⟨ys, h1, h2, h3, h4, h5⟩ := h
  refine ⟨ys, h1, Own.below h2 hb, ?_, ?_, only_trans h5 (only_of_below hb _)⟩
  · rw [filter_step (by omega), if_pos hp, List.append_nil]; exact h3
  · rw [← List.tail_drop, ← List.tail_drop, h4]
theorem Mid.keep {base : Nat} {w wr w2 : World} {r n cap : Nat} {p : Int → Bool} {xs : List Int} {i j : Nat} (h : Mid base w wr r n cap p xs i j) (hb : Below wr.heap.size wr w2) (hn : xs.length = n) (hj : j < n) (hi : i < j) (hp : p (xs[j]'(by omega)) = false) :
    Mid base w (w2.setCell ⟨r, i, none⟩ (.int .i64 (xs[j]'(by omega)))) r n cap p xs (i + 1) (j + 1) := by
  obtain ⟨ys, h1, h2, h3, h4, h5⟩ := h
  have h2' : OwI base w2 (.slice (some ⟨r, 0, none⟩) n cap) ys := Own.below h2 hb
  obtain ⟨h6, h7⟩ := h2'.set i (by omega) (xs[j]'(by omega))
  refine ⟨_, by rw [List.length_set]; exact h1, h6, ?_, ?_, only_trans (only_trans h5 (only_of_below hb _)) h7⟩
  · rw [filter_step (by omega), if_neg (by rw [hp]; decide), ← h3, List.take_succ_eq_append_getElem (by rw [List.length_set]; omega), List.getElem_set_self, List.take_set_of_le (by omega)]
  · rw [List.drop_set_of_lt (by omega), ← List.tail_drop, ← List.tail_drop, h4]

/-- What slices.DeleteFunc hands back. -/
def Del (base : Nat) (w : World) (A : Option Addr) (n cap : Nat) (l : List Int) (e : Ending) (w' : World) : Prop :=
  ∃ m c', e = .returned (.slice A m c') ∧ m = l.length ∧ OwI base w' (.slice A m c') l ∧ w.grownBy w' (Value.slice A n cap).ownBlock
theorem own_cut {base : Nat} {w : World} {r n cap : Nat} {ys : List Int} (h : OwI base w (.slice (some ⟨r, 0, none⟩) n cap) ys) (i : Nat) (hi : i ≤ n) : OwI base w (.slice (some ⟨r, 0, none⟩) i cap) (ys.take i) := by
  obtain ⟨_, hn, _⟩ := h.sl
  subst hn
  have h' : Own encI 1 3 base w (.slice (some ⟨r, 0, none⟩) ys.length cap) ys := h
  unfold Own at h'
  show Own encI 1 3 base w _ _
  unfold Own
  obtain ⟨hl, h2⟩ := h'
  rcases h2 with ⟨hv, _⟩ | ⟨g, c', cur, hv, hb, hg, hc, hm, hs, ht⟩
  · cases hv
  · simp only [Value.slice.injEq, Option.some.injEq, Addr.mk.injEq, and_true, true_and] at hv
    obtain ⟨rfl, rfl⟩ := hv
    refine ⟨flat_length encI_length, .inr ⟨r, cap, cur, ?_, hb, hg, ?_, hm, hs, ?_⟩⟩
    · rw [List.length_take, Nat.min_eq_left hi]
    · rw [List.length_take]; omega
    · rw [List.length_take, Nat.min_eq_left hi]
      have hf : flat encI ys = flat encI (ys.take i) ++ flat encI (ys.drop i) := by rw [← flat_append, List.take_append_drop]
      have hlen : (flat encI (ys.take i)).length = i * 1 := by rw [flat_length encI_length, List.length_take, Nat.min_eq_left hi]
      have ht2 : (cur.toList.take (ys.length * 1)).take (i * 1) = (flat encI ys).take (i * 1) := by rw [ht]
      rw [List.take_take, Nat.min_eq_left (by omega)] at ht2
      rw [ht2, hf, List.take_append_of_le_length (by omega), List.take_of_length_le (by omega)]
/-- A row, when one has set cells of it from i on. -/
theorem own_setCells {base : Nat} {r n cap : Nat} : ∀ (l : List Int) (i : Nat) (w : World) (ys : List Int), OwI base w (.slice (some ⟨r, 0, none⟩) n cap) ys → i + l.length ≤ n →
    ∃ zs : List Int, zs.length = n ∧ OwI base (w.setCells r i (l.map (fun x => Value.int .i64 x))) (.slice (some ⟨r, 0, none⟩) n cap) zs ∧ zs.take i = ys.take i
  | [], i, w, ys, h, _ => ⟨ys, (h.sl).2.1.symm, h, rfl⟩
  | x :: l, i, w, ys, h, hl => by
    have hn := (h.sl).2.1
    simp only [List.length_cons] at hl
    obtain ⟨h2, _⟩ := h.set i (by omega) x
    obtain ⟨zs, h3, h4, h5⟩ := own_setCells l (i + 1) _ _ h2 (by omega)
    refine ⟨zs, h3, h4, ?_⟩
    have h6 := congrArg (List.take i) h5
    rw [List.take_take, List.take_take, Nat.min_eq_left (by omega), List.take_set_of_le (by omega)] at h6
    exact h6

set_option maxHeartbeats 4000000 in
theorem delFunc (g B : Nat) (p : Int → Bool) (D : Int → Prop) (S : World → Prop) (eg : ∀ args w, (callFunc g args).run Try.prog w = .ok (.enter g args) w) (hp : PredS g B p D S) (hS : ∀ W W', S W → Below W.heap.size W W' → S W')
    (A : Option Addr) (c base : Nat) (xs : List Int) (w : World) (hown : OwI base w (.slice A xs.length c) xs) (hbig : xs.length ≤ 1000000) (hw : S w) (hD : ∀ x ∈ xs, D x)
    (hR : ∀ W r j v, A = some ⟨r, 0, none⟩ → S W → S (W.setCell ⟨r, j, none⟩ v)) :
    Calls Try.prog 76 #[.slice A xs.length c, .func (.func g) #[] #[.pointer (some ⟨B, 0, none⟩)]] w (Del base w A xs.length c (xs.filter (fun x => !p x))) := by
  obtain ⟨hsl, _, hcap⟩ := hown.sl
  have hif := indexFunc g B p D S eg hp hS A c xs w hsl (by omega) hw hD
  rcases idxOf_cases p xs with ⟨h1, hno⟩ | ⟨k, hk, h1, hk1, hno⟩
  · rw [h1] at hif
    have hfl : xs.filter (fun x => !p x) = xs := by
      rw [List.filter_eq_self]
      intro x hx
      obtain ⟨j, hj, rfl⟩ := List.getElem_of_mem hx
      rw [hno j hj]; rfl
    rw [hfl]
    clear h1 hno hR hD hp hS hw hfl
    go_enter Try.func76, Try.ntmps76
    go_wp2_with (go_at_call 81; refine hif.mono ?_; rintro e w1 ⟨rfl, hb1⟩)
    go_ret
    exact ⟨xs.length, c, rfl, rfl, Own.below hown hb1, only_of_below hb1 _⟩
  · rw [h1] at hif
    obtain ⟨r, cap, hv, hbr, hrs⟩ := hown.form (by omega)
    simp only [Value.slice.injEq] at hv
    obtain ⟨rfl, _, rfl⟩ := hv
    have hne : ((k : Int) == -1) = false := by simp
    obtain ⟨n, hn⟩ : ∃ n, n = xs.length := ⟨_, rfl⟩
    rw [← hn] at hif hown hcap hbig ⊢
    have HN := Lib.hid hn.symm
    have HD := Lib.hid hD
    have hk' : k < n := by omega
    have hst : xs.take k = (xs.take (k + 1)).filter (fun x => !p x) := by
      rw [filter_step hk, if_pos hk1, List.append_nil]
      symm
      rw [List.filter_eq_self]
      intro x hx
      obtain ⟨j, hj, rfl⟩ := List.getElem_of_mem hx
      rw [List.length_take] at hj
      rw [List.getElem_take, hno j (by omega)]; rfl
    have HST := Lib.hid hst
    have HOW := Lib.hid hown
    have HS := Lib.hid hS
    have HP := Lib.hid hp
    have HR := Lib.hid (fun W j v => hR W r j v rfl)
    have HW := Lib.hid hw
    clear h1 hno hn hst hown hS hp hR hw hD hk hk1 hsl
    go_enter Try.func76, Try.ntmps76
    go_wp2_with (go_at_call 81; refine hif.mono ?_; rintro e w1 ⟨rfl, hb1⟩)
    go_loopg [5, 6, 7] n (fun gg s5 s6 _ wr => ∃ (i j : Nat), s5 = .int .i64 i ∧ s6 = .int .i64 j ∧ i < j ∧ j ≤ n ∧ n - j ≤ gg ∧ Aside (S wr) ∧ Aside (Mid base w wr r n c p xs i j))
    case atStart =>
      refine ⟨k, k + 1, rfl, by go_num, by omega, by omega, by omega, HS.out _ _ HW.out hb1, xs, HN.out, Own.below HOW.out hb1, HST.out, rfl, only_of_below hb1 _⟩
    case round =>
      clear hif
      obtain ⟨i, j, rfl, rfl, hij, hjn, hgg, SW, MD⟩ := hrel
      by_cases hlt : j < n
      · have hjx : j < xs.length := by rw [HN.out]; exact hlt
        have hcell : wr.cell? ⟨r, j, none⟩ = some (.int .i64 xs[j]) ∧ (∃ u, wr.cell? ⟨r, i, none⟩ = some u) ∧ wr.frozen? ⟨r, i, none⟩ = false := by
          obtain ⟨ys, h1, h2, h3, h4, h5⟩ := MD.out
          obtain ⟨_, c1, _⟩ := OwI.cells h2 j (by omega)
          obtain ⟨_, c2, f2⟩ := OwI.cells h2 i (by omega)
          have : ys[j]'(by omega) = xs[j] := by
            have := congrArg (fun l => l[0]?) h4
            simp only [List.getElem?_drop, Nat.add_zero] at this
            rw [List.getElem?_eq_getElem (by omega), List.getElem?_eq_getElem hjx] at this
            simpa using this
          rw [this] at c1
          exact ⟨c1, ⟨_, c2⟩, f2 i⟩
        obtain ⟨cj, ⟨u, ci⟩, fi⟩ := hcell
        have hltz : (j : Int) < (n : Int) := by omega
        have z0 : (0 : Int) ≤ (j : Int) := by omega
        have z1 : (0 : Int) ≤ (i : Int) := by omega
        have z2 : (i : Int) < (n : Int) := by omega
        have hcall := HP.out wr xs[j] (HD.out _ (List.getElem_mem hjx)) SW.out
        have HSK := Lib.hid (fun w2 (hb : Below wr.heap.size wr w2) (hq : p xs[j] = true) => Mid.skip MD.out hb HN.out hlt hq)
        have HKP := Lib.hid (fun w2 (hb : Below wr.heap.size wr w2) (hq : p xs[j] = false) => Mid.keep MD.out hb HN.out hlt hij hq)
        clear MD
        cases hq : p xs[j] with
        | true =>
          rw [hq] at hcall
          have HQ := Lib.hid hq; clear hq
          go_wp2_with (go_at_fn g; refine hcall.mono ?_; rintro e w' ⟨rfl, hb'⟩)
          go_roundg (n - (j + 1))
          case measure => omega
          case rel => exact ⟨i, j + 1, rfl, by go_num, by omega, by omega, by omega, HS.out _ _ SW.out hb', HSK.out _ hb' HQ.out⟩
        | false =>
          rw [hq] at hcall
          have HQ := Lib.hid hq; clear hq
          go_wp2_with (go_at_fn g; refine hcall.mono ?_; rintro e w' ⟨rfl, hb'⟩; have ci' := cell_below hb' ci; have fi' : w'.frozen? ⟨r, i, none⟩ = false := (hb'.frozen (cell_lt ci)).trans fi; clear ci cj fi hcall)
          go_roundg (n - (j + 1))
          case measure => omega
          case rel => exact ⟨i + 1, j + 1, by go_num, by go_num, by omega, by omega, by omega, HR.out _ _ _ (HS.out _ _ SW.out hb'), HKP.out _ hb' HQ.out⟩
      · obtain rfl : j = n := by omega
        have hltz : ¬ (j : Int) < (j : Int) := by omega
        have hcells : ∀ t, t < j - i → (wr.cell? ⟨r, i + t, none⟩).isSome = true := by
          obtain ⟨ys, h1, h2, _⟩ := MD.out
          intro t ht
          obtain ⟨_, c1, _⟩ := OwI.cells h2 (i + t) (by omega)
          rw [c1]; rfl
        have hfro : ∀ t, wr.frozen? ⟨r, t, none⟩ = false := by
          obtain ⟨ys, h1, h2, _⟩ := MD.out
          obtain ⟨_, _, f⟩ := OwI.cells h2 i (by omega)
          exact f
        have hcl : ∀ ty, (Builtin.clear_ #[39] ty #[.slice (some ⟨r, i, none⟩) (j - i) (c - i)]).run Try.prog wr = .ok (.tuple #[]) (wr.setCells r i (List.replicate (j - i) (.int .i64 0))) :=
          fun ty => Lib.run_clear_slice wr _ _ ty _ Try.underlying39 zero3 rfl rfl r i _ _ (by omega) hcells (fun t _ => hfro _)
        clear hcells hfro
        go_wp2_with fail
        go_ret
        obtain ⟨ys, h1, h2, h3, h4, h5⟩ := MD.out
        obtain ⟨zs, g1, g2, g3⟩ := own_setCells (List.replicate (j - i) 0) i wr ys h2 (by rw [List.length_replicate]; omega)
        rw [List.map_replicate] at g2
        have hfl : zs.take i = xs.filter (fun x => !p x) := by
          rw [g3, h3, List.take_of_length_le (by rw [HN.out]; omega)]
        have hil : i = (xs.filter (fun x => !p x)).length := by rw [← hfl, List.length_take]; omega
        refine ⟨i, c, rfl, hil, ?_, only_trans h5 (only_setCells _ _ _ _)⟩
        rw [← hfl]
        exact own_cut g2 i (by omega)
end Go.Proofs.Ytdalnaegjclacaa
