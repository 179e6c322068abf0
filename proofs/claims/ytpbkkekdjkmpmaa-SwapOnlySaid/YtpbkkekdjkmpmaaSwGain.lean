/- Whether a group gains by what it gives itself. Conditions: the lists lie in memory as said. -/
import Derived.Test.YtpbkkekdjkmpmaaSwCat
namespace Go.Proofs.Ytpbkkekdjkmpmaa
open Go.RowKit

def worseB (L : List (List Int)) (D : List Int) (G : List Nat) (H : List Int) (k : Nat) : Bool := likB L (gi G 0 k) (gi D 0 (gi G 0 k)) (gi H 0 k)
def betterB (L : List (List Int)) (D : List Int) (G : List Nat) (H : List Int) (k : Nat) : Bool := likB L (gi G 0 k) (gi H 0 k) (gi D 0 (gi G 0 k))
/-- Nobody from k on has less, and somebody has more. -/
def gainK (L : List (List Int)) (D : List Int) (G : List Nat) (H : List Int) (k : Nat) (more : Bool) : Bool :=
  decide ((∀ j, j < G.length → k ≤ j → worseB L D G H j = false) ∧ (more = true ∨ ∃ j, j < G.length ∧ k ≤ j ∧ betterB L D G H j = true))
def gainF (L : List (List Int)) (D : List Int) (G : List Nat) (H : List Int) : Bool := gainK L D G H 0 false
theorem gainK_no {L : List (List Int)} {D : List Int} {G : List Nat} {H : List Int} {k : Nat} {more : Bool} (hk : k < G.length) (h : worseB L D G H k = true) : gainK L D G H k more = false := by
  unfold gainK
  rw [decide_eq_false_iff_not]
  rintro ⟨h1, _⟩
  rw [h1 k hk (Nat.le_refl _)] at h; cases h
theorem gainK_yes {L : List (List Int)} {D : List Int} {G : List Nat} {H : List Int} {k : Nat} {more b : Bool} (hk : k < G.length) (h : worseB L D G H k = false) (hb : betterB L D G H k = b) : gainK L D G H k more = gainK L D G H (k + 1) (more || b) := by
  unfold gainK
  rw [decide_eq_decide]
  constructor
  · rintro ⟨h1, h2⟩
    refine ⟨fun j hj hkj => h1 j hj (by omega), ?_⟩
    rcases h2 with h2 | ⟨j, h3, h4, h5⟩
    · left; rw [h2]; rfl
    · by_cases e : j = k
      · subst e; left; rw [← hb, h5, Bool.or_true]
      · exact .inr ⟨j, h3, by omega, h5⟩
  · rintro ⟨h1, h2⟩
    refine ⟨fun j hj hkj => ?_, ?_⟩
    · by_cases e : j = k
      · subst e; exact h
      · exact h1 j hj (by omega)
    · rcases h2 with h2 | ⟨j, h3, h4, h5⟩
      · cases more
        · rw [Bool.false_or] at h2; rw [h2] at hb; exact .inr ⟨k, hk, Nat.le_refl _, hb⟩
        · exact .inl rfl
      · exact .inr ⟨j, h3, by omega, h5⟩
theorem gainK_end {L : List (List Int)} {D : List Int} {G : List Nat} {H : List Int} {more : Bool} : gainK L D G H G.length more = more := by
  unfold gainK
  cases more
  · rw [decide_eq_false_iff_not]
    rintro ⟨_, h | ⟨j, h1, h2, _⟩⟩
    · cases h
    · omega
  · rw [decide_eq_true_iff]
    exact ⟨fun j h1 h2 => by omega, .inl rfl⟩

set_option maxRecDepth 100000 in
set_option maxHeartbeats 8000000 in
theorem gains_calls (v vd vg vh : Value) (L : List (List Int)) (D : List Int) (G : List Nat) (H : List Int) (w : World) (h : TableAt w v L) (hd : IntsAt w vd D) (hg : IntsAt w vg (numsL G)) (hh : IntsAt w vh H)
    (hG : ∀ k, k < G.length → gi G 0 k < L.length) (hD : D.length = L.length) (hH : H.length = G.length) :
    Gives Try.prog 63 #[v, vd, vg, vh] w (.bool (gainF L D G H)) := by
  have HT := Lib.hid h
  have HD := Lib.hid hd
  have HGG := Lib.hid hg
  have HHH := Lib.hid hh
  have HGL := Lib.hid hG
  have HDL := Lib.hid hD
  have HHL := Lib.hid hH
  obtain ⟨ta, tc, rfl, htc, htm, -⟩ := h
  obtain ⟨da, dc, rfl, -, -, -⟩ := hd
  obtain ⟨ga, gc, rfl, hgc, hgm, -⟩ := hg
  obtain ⟨ha, hc, rfl, -, -, -⟩ := hh
  rw [numsL_length] at hgc HGG
  rw [numsL_length]
  clear hG hD hH
  unfold Gives
  go_enter Try.func63, Try.ntmps63
  go_wp2
  go_loopw [9, 14] (fun b i wr => ∃ (k : Nat) (more : Bool), k ≤ G.length ∧ i = .int .i64 k ∧ b = .bool more ∧ Hid (gainF L D G H = gainK L D G H k more) ∧ Hid (Below w.heap.size w wr)) (fun b i _ => G.length - (intOf i).toNat)
  case atStart => exact ⟨0, false, Nat.zero_le _, rfl, rfl, rfl, Below.refl _ _⟩
  case round =>
    obtain ⟨k, more, hk, rfl, rfl, hr, hb⟩ := hrel
    by_cases hlt : k < G.length
    · obtain ⟨bg, og, rfl, hBg, cg⟩ := (HGG.out.below hb.out).cellAt (m := k) (by rw [numsL_length]; exact hlt)
      obtain ⟨g, hgg⟩ : ∃ g, gi G 0 k = g := ⟨_, rfl⟩
      have hgn := HGL.out k hlt
      rw [numsL_get hlt, show G[k] = g by rw [← hgg, gi_lt hlt]] at cg
      rw [hgg] at hgn
      obtain ⟨bd, od, rfl, hBd, cd⟩ := (HD.out.below hb.out).cellAt (m := g) (by rw [HDL.out]; exact hgn)
      obtain ⟨bh, oh, rfl, hBh, ch⟩ := (HHH.out.below hb.out).cellAt (m := k) (by rw [HHL.out]; exact hlt)
      have hgD : g < D.length := by rw [HDL.out]; exact hgn
      have hkH : k < H.length := by rw [HHL.out]; exact hlt
      obtain ⟨x, hx⟩ : ∃ x, gi D 0 g = x := ⟨_, rfl⟩
      obtain ⟨y, hy⟩ : ∃ y, gi H 0 k = y := ⟨_, rfl⟩
      have HW : Hid (worseB L D G H k = likB L g x y) := by show _ = _; unfold worseB; rw [hgg, hx, hy]
      have HBT : Hid (betterB L D G H k = likB L g y x) := by show _ = _; unfold betterB; rw [hgg, hx, hy]
      rw [hx] at cd
      rw [hy] at ch
      have q1 := fun dr os => cell_regrown cd dr os
      have q2 := fun dr os => cell_regrown ch dr os
      have HC1 := Lib.hid cd
      have HC2 := Lib.hid ch
      have HBd := Lib.hid hBd
      have HBh := Lib.hid hBh
      clear hgg hx hy cd ch
      cases hwo : likB L g x y
      · have HWO := Lib.hid hwo
        cases hbe : likB L g y x
        · have HBE := Lib.hid hbe
          have H1 := Lib.hid (gainK_yes (more := more) hlt (by rw [HW.out, hwo]) (by rw [HBT.out, hbe] : betterB L D G H k = false))
          clear hwo hbe
          go_wp2
          refine region_q mixed (by kernel_rfl) ?_
          repeat (go_big_quiet_step ((go_at_call 29; exact Gives.regrown (likes_is ((HT.out.below hb.out).below (below_regrown _ _ _)) hgn HWO.out))))
          refine wpQuiet_nil ?_
          intro wq hbq
          have q3 := fun dr os => cell_regrown ((hbq.cell (p := ⟨bd, od + g, none⟩) HBd.out).trans HC1.out) dr os
          have q4 := fun dr os => cell_regrown ((hbq.cell (p := ⟨bh, oh + k, none⟩) HBh.out).trans HC2.out) dr os
          have hb2 : Below w.heap.size w wq := below_tail hbq hb.out
          clear q1 q2
          go_wp2
          cases more
          · refine region_q mixed (by kernel_rfl) ?_
            repeat (go_big_quiet_step ((go_at_call 29; exact Gives.regrown (likes_is ((HT.out.below hb2).below (below_regrown _ _ _)) hgn HBE.out))))
            refine wpQuiet_nil ?_
            intro wq2 hbq2
            clear q3 q4
            go_wp2
            go_roundw
            case rel => exact ⟨k + 1, _, by omega, by go_num, rfl, by unfold Hid; rw [hr.out, H1.out]; rfl, below_tail hbq2 hb2⟩
            case measure => simp [intOf]; omega
          · refine region_q mixed (by kernel_rfl) ?_
            repeat (go_big_quiet_step (fail))
            refine wpQuiet_nil ?_
            intro wq2 hbq2
            clear q3 q4
            go_wp2
            go_roundw
            case rel => exact ⟨k + 1, _, by omega, by go_num, rfl, by unfold Hid; rw [hr.out, H1.out]; rfl, below_tail hbq2 hb2⟩
            case measure => simp [intOf]; omega
        · have HBE := Lib.hid hbe
          have H1 := Lib.hid (gainK_yes (more := more) hlt (by rw [HW.out, hwo]) (by rw [HBT.out, hbe] : betterB L D G H k = true))
          clear hwo hbe
          go_wp2
          refine region_q mixed (by kernel_rfl) ?_
          repeat (go_big_quiet_step ((go_at_call 29; exact Gives.regrown (likes_is ((HT.out.below hb.out).below (below_regrown _ _ _)) hgn HWO.out))))
          refine wpQuiet_nil ?_
          intro wq hbq
          have q3 := fun dr os => cell_regrown ((hbq.cell (p := ⟨bd, od + g, none⟩) HBd.out).trans HC1.out) dr os
          have q4 := fun dr os => cell_regrown ((hbq.cell (p := ⟨bh, oh + k, none⟩) HBh.out).trans HC2.out) dr os
          have hb2 : Below w.heap.size w wq := below_tail hbq hb.out
          clear q1 q2
          go_wp2
          cases more
          · refine region_q mixed (by kernel_rfl) ?_
            repeat (go_big_quiet_step ((go_at_call 29; exact Gives.regrown (likes_is ((HT.out.below hb2).below (below_regrown _ _ _)) hgn HBE.out))))
            refine wpQuiet_nil ?_
            intro wq2 hbq2
            clear q3 q4
            go_wp2
            go_roundw
            case rel => exact ⟨k + 1, _, by omega, by go_num, rfl, by unfold Hid; rw [hr.out, H1.out]; rfl, below_tail hbq2 hb2⟩
            case measure => simp [intOf]; omega
          · refine region_q mixed (by kernel_rfl) ?_
            repeat (go_big_quiet_step (fail))
            refine wpQuiet_nil ?_
            intro wq2 hbq2
            clear q3 q4
            go_wp2
            go_roundw
            case rel => exact ⟨k + 1, _, by omega, by go_num, rfl, by unfold Hid; rw [hr.out, H1.out]; rfl, below_tail hbq2 hb2⟩
            case measure => simp [intOf]; omega
      · have HWO := Lib.hid hwo
        have H1 := Lib.hid (gainK_no (more := more) hlt (by rw [HW.out, hwo]))
        clear hwo
        go_wp2
        refine region_q mixed (by kernel_rfl) ?_
        repeat (go_big_quiet_step ((go_at_call 29; exact Gives.regrown (likes_is ((HT.out.below hb.out).below (below_regrown _ _ _)) hgn HWO.out))))
        refine wpQuiet_nil ?_
        intro wq hbq
        clear q1 q2
        go_wp2
        go_ret
        exact ⟨ret_bool (by rw [hr.out, H1.out]), below_tail hbq hb.out⟩
    · obtain rfl : k = G.length := by omega
      have H1 := Lib.hid (gainK_end (L := L) (D := D) (G := G) (H := H) (more := more))
      go_wp2
      go_ret
      exact ⟨ret_bool (by rw [hr.out, H1.out]), hb.out⟩
theorem gains_is {v vd vg vh : Value} {L : List (List Int)} {D : List Int} {G : List Nat} {H : List Int} {t : Bool} {w : World} (h : TableAt w v L) (hd : IntsAt w vd D) (hg : IntsAt w vg (numsL G)) (hh : IntsAt w vh H)
    (hG : ∀ k, k < G.length → gi G 0 k < L.length) (hD : D.length = L.length) (hH : H.length = G.length) (ht : gainF L D G H = t) :
    Gives Try.prog 63 #[v, vd, vg, vh] w (.bool t) := ht ▸ gains_calls v vd vg vh L D G H w h hd hg hh hG hD hH
end Go.Proofs.Ytpbkkekdjkmpmaa
