/- Layer 9: poll.Waits, the reference's Same of numbers. -/
import Derived.Test.YtkckhnblkjgkdaaJ
namespace Go.Proofs.Ytkckhnblkjgkdaa
open Go.RowKit

/-- Who waits. -/
def wl (xs : List Fd) : List Int := (xs.filter (fun x => x.w != -1)).map (·.w)
def waitsL (xs : List Fd) : List Int := if chk xs = true then wl xs else []
theorem wl_step {xs : List Fd} {k : Nat} (h : k < xs.length) : wl (xs.take (k + 1)) = wl (xs.take k) ++ (if xs[k].w = -1 then [] else [xs[k].w]) := by
  unfold wl
  rw [List.take_succ_eq_append_getElem h, List.filter_append, List.map_append]
  by_cases e : xs[k].w = -1
  · simp [e]
  · simp [e]
theorem info2 : (Try.prog.info? 2).map (fun i => (i.zero, i.size, i.bytes)) = some (some (.int .i64 0), 1, 8) := by kernel_rfl
theorem lit_cells (w : World) (cs : Array Value) (e : TypeId) : ∀ j u, cs.toList[j]? = some u → (w.alloc (.cells cs e)).cell? ((⟨w.heap.size, 0, none⟩ : Addr).add j) = some u := by
  intro j u hu
  rw [add_plain, cell_of_row _ w.heap.size _ cs e (0, 0) (heap_alloc_new w _)]
  simpa using hu
theorem flat_I (l : List Int) : flat encI l = l.map (fun x => Value.int .i64 x) := by
  unfold flat encI
  induction l with
  | nil => rfl
  | cons a l ih => rw [List.flatMap_cons, ih]; rfl
/-- What a call hands back that gives numbers of its own. -/
def GivesI (w : World) (r : List Int) (er : Int) (e : Ending) (w' : World) : Prop :=
  ∃ A c, e = .returned (.tuple #[.slice A r.length c, .int .i64 er]) ∧ Sl encI 1 w' A r ∧ r.length ≤ c ∧ Below w.heap.size w w'
theorem own_block {w : World} {base n size : Nat} {e : TypeId} {v : Value} {ys : List Value} (h : w.ownsRow base e size v n ys) : ∀ k, v.ownBlock = some k → base ≤ k := by
  intro k hk
  rcases h.2 with ⟨rfl, _⟩ | ⟨g, cap, cur, rfl, hb, _⟩
  · cases hk
  · simp only [Value.ownBlock, Option.some.injEq] at hk
    omega
set_option maxHeartbeats 2000000 in
theorem waits_c (A : Option Addr) (c : Nat) (xs : List Fd) (w : World) (hx : Sl Fd.enc 3 w A xs) (hbig : xs.length ≤ 9223372036854775807) :
    Calls Try.prog 16 #[.slice A xs.length c] w (GivesI w (waitsL xs) (errC xs)) := by
  have hck := check_any A c xs w hx hbig
  cases hc : chk xs
  case false =>
    have hE : waitsL xs = [] := by unfold waitsL; rw [hc]; rfl
    rw [hE, errC_not hc]
    rw [errC_not hc] at hck
    clear hc hE
    go_enter Try.func16, Try.ntmps16
    go_wp2_with fail
    refine hck.mono ?_
    rintro e w1 ⟨rfl, hb1⟩
    go_wp2_with fail
    go_ret2
    exact ⟨none, 0, rfl, Sl.nil _ _ _ _, Nat.le_refl _, hb1⟩
  case true =>
    obtain ⟨i0, hi0, hz0, hz1, hz2⟩ := info_parts info2
    have hl := chk_len hc
    have hE : waitsL xs = wl (xs.take xs.length) := by unfold waitsL; rw [hc, if_pos rfl, List.take_length]
    rw [hE, errC_yes hc]
    rw [errC_yes hc] at hck
    clear hc hE
    go_enter Try.func16, Try.ntmps16
    go_wp2_with fail
    refine hck.mono ?_
    rintro e w1 ⟨rfl, hb1⟩
    have hx1 := hx.below hb1
    clear hx hck
    go_wp2_with fail
    go_loopg [2, 5, 13] xs.length (fun gg s2 _ s13 wr => ∃ (kk : Nat) (A2 : Option Addr) (d2 : Nat), kk ≤ xs.length ∧ xs.length - kk ≤ gg ∧ s13 = .int .i64 kk ∧ s2 = .slice A2 (wl (xs.take kk)).length d2 ∧ Aside (Below w1.heap.size w1 wr) ∧ Aside (Own encI 1 2 w1.heap.size wr (.slice A2 (wl (xs.take kk)).length d2) (wl (xs.take kk))))
    case atStart => exact ⟨0, none, 0, Nat.zero_le _, by omega, rfl, rfl, Below.refl _ _, World.ownsRow_nil w1 _ 2 1⟩
    case round =>
      obtain ⟨kk, A2, d2, hkk, hg, rfl, rfl, BW, OW⟩ := hrel
      by_cases hlt : kk < xs.length
      · obtain ⟨b, off, rfl, c0, c1, c2⟩ := (hx1.below BW.out).fd_at kk hlt
        have z0 : (0 : Int) ≤ (kk : Int) := by omega
        have z1 : (kk : Int) < (xs.length : Int) := by omega
        have ST := Lib.hid (wl_step hlt)
        by_cases hw : xs[kk].w = -1
        · have hwb : (xs[kk].w == -1) = true := by simpa using hw
          have HW := Lib.hid hw
          clear hw hx1
          go_wp2_with fail
          go_roundg (xs.length - (kk + 1))
          case measure => omega
          case rel =>
            have he : wl (xs.take (kk + 1)) = wl (xs.take kk) := by rw [ST.out, if_pos HW.out, List.append_nil]
            refine ⟨kk + 1, A2, d2, by omega, by omega, by go_num, by rw [he], BW.out.alloc BW.out.size _, ?_⟩
            show Own _ _ _ _ _ _ _
            rw [he]
            exact Own.below OW.out ((Below.refl _ _).alloc (Nat.le_refl _) _)
        · have hwb : (xs[kk].w == -1) = false := by simpa using hw
          have HW := Lib.hid hw
          have hlen : (wl (xs.take kk)).length ≤ kk := by
            unfold wl; rw [List.length_map]
            exact Nat.le_trans (List.length_filter_le _ _) (by rw [List.length_take]; omega)
          have hown : Own encI 1 2 w1.heap.size ((wr.alloc (.cells #[.bool xs[kk].o, .bool xs[kk].r, .int .i64 xs[kk].w] 35)).alloc (.cells #[.int .i64 xs[kk].w] 2)) (.slice A2 (wl (xs.take kk)).length d2) (wl (xs.take kk)) :=
            (Own.below OW.out ((Below.refl _ _).alloc (Nat.le_refl _) _)).below ((Below.refl _ _).alloc (Nat.le_refl _) _)
          unfold Own at hown
          have HB := Lib.hid ((BW.out.alloc BW.out.size (.cells #[.bool xs[kk].o, .bool xs[kk].r, .int .i64 xs[kk].w] 35)).alloc (BW.out.alloc BW.out.size (.cells #[.bool xs[kk].o, .bool xs[kk].r, .int .i64 xs[kk].w] 35)).size (.cells #[.int .i64 xs[kk].w] 2))
          have hlc := lit_cells (wr.alloc (.cells #[.bool xs[kk].o, .bool xs[kk].r, .int .i64 xs[kk].w] 35)) #[.int .i64 xs[kk].w] 2
          rw [show (wr.alloc (.cells #[.bool xs[kk].o, .bool xs[kk].r, .int .i64 xs[kk].w] 35)).heap.size = wr.heap.size + 1 from by simp] at hlc
          have HLC := Lib.hid hlc
          have HOB := Lib.hid (own_block hown)
          clear hlc
          clear hw hx1 OW
          go_wp2_with (at_builtin; go_must (refine wpList_append_own _ rfl (.tmp 20) (.tmp 23) 44 rfl w1.heap.size 2 i0 _ 1 8 Try.underlying44 hi0 hz0 hz1 hz2 rfl (by decide) (.slice A2 (wl (xs.take kk)).length d2) (wl (xs.take kk)).length _ rfl hown _ 1 1 [.int .i64 xs[kk].w] rfl rfl HLC.out (by intro u hu; simp at hu; rw [hu]; rfl) (by unfold maxLen; omega) (by omega) (by have := BW.out.size; simp; omega) ?_); intro v' w2 hown2 hg2 _)
          go_roundg (xs.length - (kk + 1))
          case measure => omega
          case rel =>
            have he : wl (xs.take (kk + 1)) = wl (xs.take kk) ++ [xs[kk].w] := by rw [ST.out, if_neg HW.out]
            have hown3 : Own encI 1 2 w1.heap.size w2 v' (wl (xs.take (kk + 1))) := by
              rw [he]; unfold Own; rw [List.length_append, flat_append]; exact hown2
            obtain ⟨A3, c3, rfl, _, _⟩ := hown3.sl encI_length
            refine ⟨kk + 1, A3, c3, by omega, by omega, by go_num, rfl, ?_, hown3⟩
            exact HB.out.grown hg2 HB.out.size (fun k hk => HOB.out k hk)
      · have hkx : kk = xs.length := by omega
        subst hkx
        have hown : Own encI 1 2 w1.heap.size wr (.slice A2 (wl (xs.take xs.length)).length d2) (wl (xs.take xs.length)) := OW.out
        obtain ⟨A', c', hv, hs, hcl⟩ := hown.sl encI_length
        have HS := Lib.hid (And.intro hs hcl)
        have HV := Lib.hid hv
        clear hown hs hcl hv OW
        go_wp2_with fail
        go_ret2
        exact ⟨A', c', by rw [← HV.out]; rfl, HS.out.1, HS.out.2, below_then hb1 BW.out⟩
end Go.Proofs.Ytkckhnblkjgkdaa
