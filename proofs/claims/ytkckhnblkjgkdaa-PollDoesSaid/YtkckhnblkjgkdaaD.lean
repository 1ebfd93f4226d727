/- Layer 9: poll.opened, poll.Open, poll.Shut, poll.Fire. -/
import Derived.Test.YtkckhnblkjgkdaaC
namespace Go.Proofs.Ytkckhnblkjgkdaa
open Go.RowKit

def fdAt (xs : List Fd) (i : Int) : Fd := xs.getD i.toNat default
theorem fdAt_nat {xs : List Fd} {i : Nat} (h : i < xs.length) : fdAt xs (i : Int) = xs[i] := by unfold fdAt; simp [h]
def needE (xs : List Fd) (i : Int) : Int := if inP xs i then (if (fdAt xs i).o then 0 else 5) else 1
def openE (xs : List Fd) (i : Int) : Int := if inP xs i then (if (fdAt xs i).o then 6 else 0) else 1
def openL (xs : List Fd) (i : Int) : List Fd := if openE xs i = 0 then xs.set i.toNat ⟨true, false, -1⟩ else []
def shutL (xs : List Fd) (i : Int) : List Fd := if needE xs i = 0 then xs.set i.toNat ⟨false, false, -1⟩ else []
def whoV (xs : List Fd) (i : Int) : Int := if needE xs i = 0 then (fdAt xs i).w else 0
def fireL (xs : List Fd) (i : Int) : List Fd := if needE xs i = 0 then xs.set i.toNat ⟨true, (fdAt xs i).w == -1, -1⟩ else []
theorem need_cases (xs : List Fd) (i : Int) : (inP xs i = false ∧ needE xs i = 1 ∧ openE xs i = 1) ∨ (∃ n : Nat, i = n ∧ ∃ h : n < xs.length, chk xs = true ∧ inP xs i = true ∧ xs[n].o = false ∧ needE xs i = 5 ∧ openE xs i = 0) ∨ (∃ n : Nat, i = n ∧ ∃ h : n < xs.length, chk xs = true ∧ inP xs i = true ∧ xs[n].o = true ∧ needE xs i = 0 ∧ openE xs i = 6) := by
  rcases inP_cases xs i with ⟨_, h⟩ | ⟨_, _, h⟩ | ⟨n, rfl, hn, hc, h⟩
  · exact .inl ⟨h, by unfold needE; rw [h]; rfl, by unfold openE; rw [h]; rfl⟩
  · exact .inl ⟨h, by unfold needE; rw [h]; rfl, by unfold openE; rw [h]; rfl⟩
  · cases ho : xs[n].o
    · exact .inr (.inl ⟨n, rfl, hn, hc, h, ho, by unfold needE; rw [h, fdAt_nat hn, ho]; rfl, by unfold openE; rw [h, fdAt_nat hn, ho]; rfl⟩)
    · exact .inr (.inr ⟨n, rfl, hn, hc, h, ho, by unfold needE; rw [h, fdAt_nat hn, ho]; rfl, by unfold openE; rw [h, fdAt_nat hn, ho]; rfl⟩)

/-- What a call hands back that gives descriptors of its own. -/
def Gives (w : World) (r : List Fd) (er : Int) (e : Ending) (w' : World) : Prop :=
  ∃ A c, e = .returned (.tuple #[.slice A r.length c, .int .i64 er]) ∧ Own Fd.enc 3 35 w.heap.size w' (.slice A r.length c) r ∧ Below w.heap.size w w'
def GivesV (v : Value) (w : World) (r : List Fd) (er : Int) (e : Ending) (w' : World) : Prop :=
  ∃ A c, e = .returned (.tuple #[v, .slice A r.length c, .int .i64 er]) ∧ Own Fd.enc 3 35 w.heap.size w' (.slice A r.length c) r ∧ Below w.heap.size w w'
theorem Own.none_ (w : World) (base : Nat) : Own Fd.enc 3 35 base w (.slice none 0 0) [] := World.ownsRow_nil w base 35 3
theorem gives_no {w w' : World} {er : Int} {e : Ending} (he : e = .returned (.tuple #[.slice none 0 0, .int .i64 er])) (hb : Below w.heap.size w w') : Gives w [] er e w' := ⟨none, 0, he, Own.none_ _ _, hb⟩
theorem givesV_no {v : Value} {w w' : World} {er : Int} {e : Ending} (he : e = .returned (.tuple #[v, .slice none 0 0, .int .i64 er])) (hb : Below w.heap.size w w') : GivesV v w [] er e w' := ⟨none, 0, he, Own.none_ _ _, hb⟩
theorem gives_set {w w' : World} {e : Ending} {xs : List Fd} {i g cap : Nat} {x : Fd} (he : e = .returned (.tuple #[.slice (some ⟨g, 0, none⟩) xs.length cap, .int .i64 0])) (ho : Own Fd.enc 3 35 w.heap.size w' (.slice (some ⟨g, 0, none⟩) (xs.set i x).length cap) (xs.set i x)) (hb : Below w.heap.size w w') : Gives w (xs.set i x) 0 e w' :=
  ⟨some ⟨g, 0, none⟩, cap, by rw [he, List.length_set], ho, hb⟩
theorem givesV_set {v : Value} {w w' : World} {e : Ending} {xs : List Fd} {i g cap : Nat} {x : Fd} (he : e = .returned (.tuple #[v, .slice (some ⟨g, 0, none⟩) xs.length cap, .int .i64 0])) (ho : Own Fd.enc 3 35 w.heap.size w' (.slice (some ⟨g, 0, none⟩) (xs.set i x).length cap) (xs.set i x)) (hb : Below w.heap.size w w') : GivesV v w (xs.set i x) 0 e w' :=
  ⟨some ⟨g, 0, none⟩, cap, by rw [he, List.length_set], ho, hb⟩

set_option maxHeartbeats 1000000 in
theorem opened_no (b off c : Nat) (A : Option Addr) (xs : List Fd) (i : Int) (w : World) (hA : 0 < xs.length → A = some ⟨b, off, none⟩) (hx : Sl Fd.enc 3 w A xs) (hbig : xs.length ≤ 9223372036854775807) (h : needE xs i ≠ 0) :
    Calls Try.prog 31 #[.slice A xs.length c, .int .i64 i] w fun e w' => e = .returned (.tuple #[.slice none 0 0, .pointer none, .int .i64 (needE xs i)]) ∧ Below w.heap.size w w' := by
  rcases need_cases xs i with ⟨h1, h2, _⟩ | ⟨n, rfl, hn, hc, hi, ho, h2, _⟩ | ⟨n, rfl, hn, hc, hi, ho, h2, _⟩
  · have ho := ownp_no A c xs i w hx hbig h1
    rw [h2]; clear h2 h1 h hA
    go_enter Try.func31, Try.ntmps31
    go_wp2_with (go_at_call 29; refine ho.mono ?_; rintro e w1 ⟨rfl, hb1⟩)
    go_ret3
    exact ⟨rfl, hb1⟩
  · obtain rfl := hA (by omega)
    have hp := ownp_yes b off c xs n w hx hn hc
    rw [h2]; clear h2 h hA hc hi
    go_enter Try.func31, Try.ntmps31
    go_wp2_with fail
    refine hp.mono ?_
    rintro e w1 ⟨g, cap, rfl, hown, hb1⟩
    obtain ⟨c0, c1, c2, hfz⟩ := own_cells hown n hn
    rw [ho] at c0
    clear ho
    go_wp2_with fail
    go_ret3
    exact ⟨rfl, hb1⟩
  · exact absurd h2 h
set_option maxHeartbeats 1000000 in
theorem opened_yes (b off c : Nat) (xs : List Fd) (i : Nat) (w : World) (hx : Sl Fd.enc 3 w (some ⟨b, off, none⟩) xs) (hi : i < xs.length) (hc : chk xs = true) (ho : xs[i].o = true) :
    Calls Try.prog 31 #[.slice (some ⟨b, off, none⟩) xs.length c, .int .i64 i] w fun e w' => ∃ g cap, e = .returned (.tuple #[.slice (some ⟨g, 0, none⟩) xs.length cap, .pointer (some ⟨g, i * 3, none⟩), .int .i64 0]) ∧ Own Fd.enc 3 35 w.heap.size w' (.slice (some ⟨g, 0, none⟩) xs.length cap) xs ∧ Below w.heap.size w w' := by
  have hp := ownp_yes b off c xs i w hx hi hc
  clear hc
  go_enter Try.func31, Try.ntmps31
  go_wp2_with fail
  refine hp.mono ?_
  rintro e w1 ⟨g, cap, rfl, hown, hb1⟩
  obtain ⟨c0, c1, c2, hfz⟩ := own_cells hown i hi
  rw [ho] at c0
  clear ho
  go_wp2_with fail
  go_ret3
  exact ⟨g, cap, rfl, hown, hb1⟩

set_option maxHeartbeats 1000000 in
theorem open_slice (b off c : Nat) (A : Option Addr) (xs : List Fd) (i : Int) (w : World) (hA : 0 < xs.length → A = some ⟨b, off, none⟩) (hx : Sl Fd.enc 3 w A xs) (hbig : xs.length ≤ 9223372036854775807) :
    Calls Try.prog 10 #[.slice A xs.length c, .int .i64 i] w (Gives w (openL xs i) (openE xs i)) := by
  unfold openL
  rcases need_cases xs i with ⟨h1, _, h2⟩ | ⟨n, rfl, hn, hc, hi, ho, _, h2⟩ | ⟨n, rfl, hn, hc, hi, ho, _, h2⟩
  · have ho := ownp_no A c xs i w hx hbig h1
    rw [h2, if_neg (by decide)]; clear h2 h1 hA
    go_enter Try.func10, Try.ntmps10
    go_wp2_with (go_at_call 29; refine ho.mono ?_; rintro e w1 ⟨rfl, hb1⟩)
    go_ret2
    exact gives_no rfl hb1
  · obtain rfl := hA (by omega)
    have hp := ownp_yes b off c xs n w hx hn hc
    rw [h2, if_pos rfl, Int.toNat_natCast]; clear h2 hA hc hi
    go_enter Try.func10, Try.ntmps10
    go_wp2_with fail
    refine hp.mono ?_
    rintro e w1 ⟨g, cap, rfl, hown, hb1⟩
    obtain ⟨c0, c1, c2, hfz⟩ := own_cells hown n hn
    rw [ho] at c0
    clear ho
    go_wp2_with fail
    refine (open_below w1).mono ?_
    rintro e w2 ⟨rfl, hb2⟩
    have hown2 := hown.below hb2
    have hg := own_base_le hown2 hn
    clear c0 c1 c2 hfz
    obtain ⟨c0, c1, c2, hfz⟩ := own_cells hown2 n hn
    have f0 := hfz (n * 3)
    have f1 := hfz (n * 3 + 1)
    have f2 := hfz (n * 3 + 2)
    go_wp2_with fail
    go_ret2
    exact gives_set rfl (own_setAll hown2 n hn ⟨true, false, -1⟩) (below_setAll (below_then hb1 hb2) hg _ _ _)
  · obtain rfl := hA (by omega)
    have hp := ownp_yes b off c xs n w hx hn hc
    rw [h2, if_neg (by decide)]; clear h2 hA hc hi
    go_enter Try.func10, Try.ntmps10
    go_wp2_with fail
    refine hp.mono ?_
    rintro e w1 ⟨g, cap, rfl, hown, hb1⟩
    obtain ⟨c0, c1, c2, hfz⟩ := own_cells hown n hn
    rw [ho] at c0
    clear ho
    go_wp2_with fail
    go_ret2
    exact gives_no rfl hb1

set_option maxHeartbeats 1000000 in
theorem shut_slice (b off c : Nat) (A : Option Addr) (xs : List Fd) (i : Int) (w : World) (hA : 0 < xs.length → A = some ⟨b, off, none⟩) (hx : Sl Fd.enc 3 w A xs) (hbig : xs.length ≤ 9223372036854775807) :
    Calls Try.prog 11 #[.slice A xs.length c, .int .i64 i] w (GivesV (.int .i64 (whoV xs i)) w (shutL xs i) (needE xs i)) := by
  unfold shutL whoV
  by_cases hne : needE xs i = 0
  case neg =>
    have ho := opened_no b off c A xs i w hA hx hbig hne
    have hq : (needE xs i == 0) = false := by simpa using hne
    rw [if_neg hne, if_neg hne]; clear hne hA
    generalize needE xs i = q at *
    go_enter Try.func11, Try.ntmps11
    go_wp2_with (go_at_call 31; refine ho.mono ?_; rintro e w1 ⟨rfl, hb1⟩)
    go_ret3
    exact givesV_no rfl hb1
  case pos =>
    rcases need_cases xs i with ⟨_, h2, _⟩ | ⟨n, rfl, hn, hc, hi, ho, h2, _⟩ | ⟨n, rfl, hn, hc, hi, ho, h2, _⟩
    · omega
    · omega
    · obtain rfl := hA (by omega)
      have hp := opened_yes b off c xs n w hx hn hc ho
      rw [if_pos h2, if_pos h2, fdAt_nat hn, Int.toNat_natCast, h2]; clear h2 hA hc hi hne ho
      go_enter Try.func11, Try.ntmps11
      go_wp2_with fail
      refine hp.mono ?_
      rintro e w1 ⟨g, cap, rfl, hown, hb1⟩
      obtain ⟨c0, c1, c2, hfz⟩ := own_cells hown n hn
      go_wp2_with fail
      refine (shut_below w1).mono ?_
      rintro e w2 ⟨rfl, hb2⟩
      have hown2 := hown.below hb2
      have hg := own_base_le hown2 hn
      clear c0 c1 c2 hfz
      obtain ⟨c0, c1, c2, hfz⟩ := own_cells hown2 n hn
      have f0 := hfz (n * 3)
      have f1 := hfz (n * 3 + 1)
      have f2 := hfz (n * 3 + 2)
      go_wp2_with fail
      go_ret3
      exact givesV_set rfl (own_setAll hown2 n hn ⟨false, false, -1⟩) (below_setAll (below_then hb1 hb2) hg _ _ _)

theorem own_setR {w : World} {base g cap : Nat} {xs : List Fd} (h : Own Fd.enc 3 35 base w (.slice (some ⟨g, 0, none⟩) xs.length cap) xs) (i : Nat) (hi : i < xs.length) (r : Bool) :
    Own Fd.enc 3 35 base (w.setCell ⟨g, i * 3 + 1, none⟩ (.bool r)) (.slice (some ⟨g, 0, none⟩) (xs.set i { xs[i] with r := r }).length cap) (xs.set i { xs[i] with r := r }) := by
  unfold Own at h ⊢
  have h1 := (h.stored (i * 3 + 1) (.bool r)).1
  rw [flat_set Fd.enc_length i hi 1 (by omega) _ { xs[i] with r := r } (by simp [Fd.enc])] at h1
  rw [List.length_set]
  exact h1
theorem own_setW {w : World} {base g cap : Nat} {xs : List Fd} (h : Own Fd.enc 3 35 base w (.slice (some ⟨g, 0, none⟩) xs.length cap) xs) (i : Nat) (hi : i < xs.length) (r : Int) :
    Own Fd.enc 3 35 base (w.setCell ⟨g, i * 3 + 2, none⟩ (.int .i64 r)) (.slice (some ⟨g, 0, none⟩) (xs.set i { xs[i] with w := r }).length cap) (xs.set i { xs[i] with w := r }) := by
  unfold Own at h ⊢
  have h1 := (h.stored (i * 3 + 2) (.int .i64 r)).1
  rw [flat_set Fd.enc_length i hi 2 (by omega) _ { xs[i] with w := r } (by simp [Fd.enc])] at h1
  rw [List.length_set]
  exact h1
end Go.Proofs.Ytkckhnblkjgkdaa
