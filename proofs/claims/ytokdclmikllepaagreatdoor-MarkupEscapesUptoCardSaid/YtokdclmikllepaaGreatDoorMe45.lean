import Derived.Test.YtokdclmikllepaaGreatDoorMe41
namespace Go.Proofs.YtokdclmikllepaaGreatDoorP
open Go.RowKit Go.Proofs.YtokdclmikllepaaGreatDoorW.PrintWords Go.Proofs.YtokdclmikllepaaGreatDoorW.PrintLast Go.Proofs.YtokdclmikllepaaGreatDoorW.PrintMore
attribute [local go_sem] max2_int min2_int max_two min_two max_three min_three max_four min_four   -- for this text's walks alone
set_option linter.unusedVariables false
set_option linter.unusedSimpArgs false
mutual
def pavaneref08_swap.j0 : Nat → Int → Bool → Bool → Option (ByteArray)
  | 0, _, _, _ => none
  | k + 1, x0, x1, x14 => if x14 = true then (some (⟨#[38, 103, 116, 59]⟩ : ByteArray)) else (if x0 = 13 then (some (⟨#[38, 35, 49, 51, 59]⟩ : ByteArray)) else (if x0 = 34 then (pavaneref08_swap.j1 k x0 x1 x1) else (pavaneref08_swap.j1 k x0 x1 false)))
def pavaneref08_swap.j1 : Nat → Int → Bool → Bool → Option (ByteArray)
  | 0, _, _, _ => none
  | k + 1, x0, x1, x21 => if x21 = true then (some (⟨#[38, 113, 117, 111, 116, 59]⟩ : ByteArray)) else (if x0 = 9 then (pavaneref08_swap.j2 k x0 x1 x1) else (pavaneref08_swap.j2 k x0 x1 false))
def pavaneref08_swap.j2 : Nat → Int → Bool → Bool → Option (ByteArray)
  | 0, _, _, _ => none
  | k + 1, x0, x1, x26 => if x26 = true then (some (⟨#[38, 35, 57, 59]⟩ : ByteArray)) else (if x0 = 10 then (if x1 = true then (some (⟨#[38, 35, 49, 48, 59]⟩ : ByteArray)) else (some (strOfNums (([x0] : List Int))))) else (some (strOfNums (([x0] : List Int)))))
end
def pavaneref08_swap.f (k : Nat) (a0 : Int) (a1 : Bool) : Option (ByteArray) := if a0 = 38 then (some (⟨#[38, 97, 109, 112, 59]⟩ : ByteArray)) else (if a0 = 60 then (some (⟨#[38, 108, 116, 59]⟩ : ByteArray)) else (if a0 = 62 then (pavaneref08_swap.j0 k a0 a1 (!a1)) else (pavaneref08_swap.j0 k a0 a1 false)))
theorem pavaneref08_swap.mono_l : ∀ k, (∀ y0 y1 y2, LeO (pavaneref08_swap.j0 k y0 y1 y2) (pavaneref08_swap.j0 (k + 1) y0 y1 y2)) ∧ (∀ y0 y1 y2, LeO (pavaneref08_swap.j1 k y0 y1 y2) (pavaneref08_swap.j1 (k + 1) y0 y1 y2)) ∧ (∀ y0 y1 y2, LeO (pavaneref08_swap.j2 k y0 y1 y2) (pavaneref08_swap.j2 (k + 1) y0 y1 y2))
  | 0 => ⟨fun _ _ _ r h => by simp [pavaneref08_swap.j0] at h, fun _ _ _ r h => by simp [pavaneref08_swap.j1] at h, fun _ _ _ r h => by simp [pavaneref08_swap.j2] at h⟩
  | k + 1 => by
    obtain ⟨ih0, ih1, ih2⟩ := pavaneref08_swap.mono_l k
    refine ⟨?_, ?_, ?_⟩
    · intro y0 y1 y2
      unfold pavaneref08_swap.j0
      repeat' first
      | (with_reducible exact ih0 _ _ _)
      | (with_reducible exact ih1 _ _ _)
      | (with_reducible exact ih2 _ _ _)
      | (with_reducible exact LeO.refl _)
      | (with_reducible exact LeO.none _)
      | (with_reducible refine LeO.ite ?_ ?_)
      | (with_reducible refine LeO.bind ?_ (fun _ => ?_))
      | exact ih0 _ _ _
      | exact ih1 _ _ _
      | exact ih2 _ _ _
      | exact LeO.none _
      | refine LeO.ite ?_ ?_
      | refine LeO.bind ?_ (fun _ => ?_)
    · intro y0 y1 y2
      unfold pavaneref08_swap.j1
      repeat' first
      | (with_reducible exact ih0 _ _ _)
      | (with_reducible exact ih1 _ _ _)
      | (with_reducible exact ih2 _ _ _)
      | (with_reducible exact LeO.refl _)
      | (with_reducible exact LeO.none _)
      | (with_reducible refine LeO.ite ?_ ?_)
      | (with_reducible refine LeO.bind ?_ (fun _ => ?_))
      | exact ih0 _ _ _
      | exact ih1 _ _ _
      | exact ih2 _ _ _
      | exact LeO.none _
      | refine LeO.ite ?_ ?_
      | refine LeO.bind ?_ (fun _ => ?_)
    · intro y0 y1 y2
      unfold pavaneref08_swap.j2
      repeat' first
      | (with_reducible exact ih0 _ _ _)
      | (with_reducible exact ih1 _ _ _)
      | (with_reducible exact ih2 _ _ _)
      | (with_reducible exact LeO.refl _)
      | (with_reducible exact LeO.none _)
      | (with_reducible refine LeO.ite ?_ ?_)
      | (with_reducible refine LeO.bind ?_ (fun _ => ?_))
      | exact ih0 _ _ _
      | exact ih1 _ _ _
      | exact ih2 _ _ _
      | exact LeO.none _
      | refine LeO.ite ?_ ?_
      | refine LeO.bind ?_ (fun _ => ?_)
theorem pavaneref08_swap.mono : ∀ a0 a1 k, LeO (pavaneref08_swap.f k a0 a1) (pavaneref08_swap.f (k + 1) a0 a1) := by
  intro a0 a1 k
  obtain ⟨ih0, ih1, ih2⟩ := pavaneref08_swap.mono_l k
  unfold pavaneref08_swap.f
  repeat' first
      | (with_reducible exact ih0 _ _ _)
      | (with_reducible exact ih1 _ _ _)
      | (with_reducible exact ih2 _ _ _)
      | (with_reducible exact LeO.refl _)
      | (with_reducible exact LeO.none _)
      | (with_reducible refine LeO.ite ?_ ?_)
      | (with_reducible refine LeO.bind ?_ (fun _ => ?_))
      | exact ih0 _ _ _
      | exact ih1 _ _ _
      | exact ih2 _ _ _
      | exact LeO.none _
      | refine LeO.ite ?_ ?_
      | refine LeO.bind ?_ (fun _ => ?_)
set_option maxHeartbeats 8000000 in
set_option maxRecDepth 100000 in
theorem pavaneref08_swap.calls (k : Nat) (a0 : Int) (a1 : Bool) (r : ByteArray) (w : World) (h : pavaneref08_swap.f k a0 a1 = some r) :
    Calls Tryz.prog 63 #[.int .u8 a0, .bool a1] w fun e w' => e = .returned (.string r) ∧ Below w.heap.size w w' := by
  have HB := Aside0.mk (Below.refl w.heap.size w)
  have H : (if a0 = 38 then (some (⟨#[38, 97, 109, 112, 59]⟩ : ByteArray)) else (if a0 = 60 then (some (⟨#[38, 108, 116, 59]⟩ : ByteArray)) else (if a0 = 62 then (pavaneref08_swap.j0 k a0 a1 (!a1)) else (pavaneref08_swap.j0 k a0 a1 false)))) = some r := h
  clear h
  by_cases c3 : a0 = 38
  · rw [if_pos c3] at H
    have c3b0 : (a0 == 38) = true := beq_iff_eq.mpr c3
    have c3b1 : (a0 != 38) = false := bne_eq_false_iff_eq.mpr c3
    clear c3
    obtain rfl := Option.some.inj H
    go_enter Tryz.func63, Tryz.ntmps63
    go_wp2
    go_ret
    exact ⟨by first | rfl | (simp [errW_none, errW_some] <;> rfl) | (simp [*, errW_none, errW_some] <;> rfl), by repeat (first | (with_reducible first | exact HB.out | apply below_alloc | apply pw_below_drewN | apply below_drew1) | exact HB.out)⟩
  · rw [if_neg c3] at H
    have c3b0 : (a0 == 38) = false := beq_eq_false_iff_ne.mpr c3
    have c3b1 : (a0 != 38) = true := bne_iff_ne.mpr c3
    by_cases c4 : a0 = 60
    · rw [if_pos c4] at H
      have c4b0 : (a0 == 60) = true := beq_iff_eq.mpr c4
      have c4b1 : (a0 != 60) = false := bne_eq_false_iff_eq.mpr c4
      clear c4
      obtain rfl := Option.some.inj H
      go_enter Tryz.func63, Tryz.ntmps63
      go_wp2
      go_ret
      exact ⟨by first | rfl | (simp [errW_none, errW_some] <;> rfl) | (simp [*, errW_none, errW_some] <;> rfl), by repeat (first | (with_reducible first | exact HB.out | apply below_alloc | apply pw_below_drewN | apply below_drew1) | exact HB.out)⟩
    · rw [if_neg c4] at H
      have c4b0 : (a0 == 60) = false := beq_eq_false_iff_ne.mpr c4
      have c4b1 : (a0 != 60) = true := bne_iff_ne.mpr c4
      have HC5 := Aside0.mk H
      clear H
      go_enter Tryz.func63, Tryz.ntmps63
      go_upto_region 5 with (fail)
      go_cut [14] (fun v14 wc => ∃ (kq : Nat) (x14_4 : Bool), v14 = .bool x14_4 ∧ Aside0 (pavaneref08_swap.j0 kq a0 a1 x14_4 = some r) ∧ Aside0 (kq ≤ k) ∧ Aside0 (Below w.heap.size w wc))
      case first =>
        have H := HC5.out
        clear HC5
        by_cases c6 : a0 = 62
        · rw [if_pos c6] at H
          have c6b0 : (a0 == 62) = true := beq_iff_eq.mpr c6
          have c6b1 : (a0 != 62) = false := bne_eq_false_iff_eq.mpr c6
          clear c6
          (first | rw [c6b0] | (simp only [i64_w, i32_w]; rw [c6b0]) | skip)
          have H' := Aside0.mk H
          clear H
          go_wp2
          go_meet
          case rel => exact ⟨_, (!a1), (by first | rfl | (simp; done) | (simp [*]; done)), H', ⟨by first | omega | exact Nat.le_refl _⟩, ⟨by repeat (first | (with_reducible first | exact HB.out | apply below_alloc | apply pw_below_drewN | apply below_drew1) | exact HB.out)⟩⟩
        · rw [if_neg c6] at H
          have c6b0 : (a0 == 62) = false := beq_eq_false_iff_ne.mpr c6
          have c6b1 : (a0 != 62) = true := bne_iff_ne.mpr c6
          (first | rw [c6b0] | (simp only [i64_w, i32_w]; rw [c6b0]) | skip)
          have H' := Aside0.mk H
          clear H
          go_wp2
          go_meet
          case rel => exact ⟨_, (false), (by first | rfl | (simp; done) | (simp [*]; done)), H', ⟨by first | omega | exact Nat.le_refl _⟩, ⟨by repeat (first | (with_reducible first | exact HB.out | apply below_alloc | apply pw_below_drewN | apply below_drew1) | exact HB.out)⟩⟩
      case rest =>
        clear HC5
        try clear p2
        try clear c3
        try clear c3b0
        try clear c3b1
        try clear c4
        try clear c4b0
        try clear c4b1
        try clear c6
        try clear c6b0
        try clear c6b1
        obtain ⟨kq, x14_4, rfl, HA, HJ4, HB⟩ := hcut
        cases kq with
        | zero => exact absurd HA.out (by simp [pavaneref08_swap.j0])
        | succ kj4 =>
          have H := HA.out
          clear HA
          simp only [pavaneref08_swap.j0] at H
          by_cases c7 : x14_4 = true
          · subst c7
            have H1 : (some (⟨#[38, 103, 116, 59]⟩ : ByteArray)) = some r := by rw [if_pos rfl] at H; exact H
            clear H
            have H := H1
            clear H1
            obtain rfl := Option.some.inj H
            go_wp2
            go_ret
            exact ⟨by first | rfl | (simp [errW_none, errW_some] <;> rfl) | (simp [*, errW_none, errW_some] <;> rfl), by repeat (first | (with_reducible first | exact HB.out | apply below_alloc | apply pw_below_drewN | apply below_drew1) | exact HB.out)⟩
          · replace c7 := Bool.eq_false_iff.mpr c7
            subst c7
            have H1 : (if a0 = 13 then (some (⟨#[38, 35, 49, 51, 59]⟩ : ByteArray)) else (if a0 = 34 then (pavaneref08_swap.j1 kj4 a0 a1 a1) else (pavaneref08_swap.j1 kj4 a0 a1 false))) = some r := by rw [if_neg (show ¬ (false = true) by decide)] at H; exact H
            clear H
            have H := H1
            clear H1
            by_cases c8 : a0 = 13
            · rw [if_pos c8] at H
              have c8b0 : (a0 == 13) = true := beq_iff_eq.mpr c8
              have c8b1 : (a0 != 13) = false := bne_eq_false_iff_eq.mpr c8
              clear c8
              obtain rfl := Option.some.inj H
              go_wp2
              go_ret
              exact ⟨by first | rfl | (simp [errW_none, errW_some] <;> rfl) | (simp [*, errW_none, errW_some] <;> rfl), by repeat (first | (with_reducible first | exact HB.out | apply below_alloc | apply pw_below_drewN | apply below_drew1) | exact HB.out)⟩
            · rw [if_neg c8] at H
              have c8b0 : (a0 == 13) = false := beq_eq_false_iff_ne.mpr c8
              have c8b1 : (a0 != 13) = true := bne_iff_ne.mpr c8
              have HC9 := Aside0.mk H
              clear H
              go_upto_region 9 with (fail)
              go_cut [21] (fun v21 wc => ∃ (kq : Nat) (x21_8 : Bool), v21 = .bool x21_8 ∧ Aside0 (pavaneref08_swap.j1 kq a0 a1 x21_8 = some r) ∧ Aside0 (kq ≤ kj4) ∧ Aside0 (Below w.heap.size w wc))
              case first =>
                have H := HC9.out
                clear HC9
                by_cases c10 : a0 = 34
                · rw [if_pos c10] at H
                  have c10b0 : (a0 == 34) = true := beq_iff_eq.mpr c10
                  have c10b1 : (a0 != 34) = false := bne_eq_false_iff_eq.mpr c10
                  clear c10
                  (first | rw [c10b0] | (simp only [i64_w, i32_w]; rw [c10b0]) | skip)
                  have H' := Aside0.mk H
                  clear H
                  go_wp2
                  go_meet
                  case rel => exact ⟨_, (a1), (by first | rfl | (simp; done) | (simp [*]; done)), H', ⟨by have := HJ4.out; first | omega | exact Nat.le_refl _⟩, ⟨by repeat (first | (with_reducible first | exact HB.out | apply below_alloc | apply pw_below_drewN | apply below_drew1) | exact HB.out)⟩⟩
                · rw [if_neg c10] at H
                  have c10b0 : (a0 == 34) = false := beq_eq_false_iff_ne.mpr c10
                  have c10b1 : (a0 != 34) = true := bne_iff_ne.mpr c10
                  (first | rw [c10b0] | (simp only [i64_w, i32_w]; rw [c10b0]) | skip)
                  have H' := Aside0.mk H
                  clear H
                  go_wp2
                  go_meet
                  case rel => exact ⟨_, (false), (by first | rfl | (simp; done) | (simp [*]; done)), H', ⟨by have := HJ4.out; first | omega | exact Nat.le_refl _⟩, ⟨by repeat (first | (with_reducible first | exact HB.out | apply below_alloc | apply pw_below_drewN | apply below_drew1) | exact HB.out)⟩⟩
              case rest =>
                clear HC9
                try clear c1
                try clear p2
                try clear c3
                try clear c3b0
                try clear c3b1
                try clear c4
                try clear c4b0
                try clear c4b1
                try clear c6
                try clear c6b0
                try clear c6b1
                try clear c7
                try clear c8
                try clear c8b0
                try clear c8b1
                try clear c10
                try clear c10b0
                try clear c10b1
                try clear p2
                obtain ⟨kq, x21_8, rfl, HA, HJ8, HB⟩ := hcut
                cases kq with
                | zero => exact absurd HA.out (by simp [pavaneref08_swap.j1])
                | succ kj8 =>
                  have H := HA.out
                  clear HA
                  simp only [pavaneref08_swap.j1] at H
                  by_cases c11 : x21_8 = true
                  · subst c11
                    have H1 : (some (⟨#[38, 113, 117, 111, 116, 59]⟩ : ByteArray)) = some r := by rw [if_pos rfl] at H; exact H
                    clear H
                    have H := H1
                    clear H1
                    obtain rfl := Option.some.inj H
                    go_wp2
                    go_ret
                    exact ⟨by first | rfl | (simp [errW_none, errW_some] <;> rfl) | (simp [*, errW_none, errW_some] <;> rfl), by repeat (first | (with_reducible first | exact HB.out | apply below_alloc | apply pw_below_drewN | apply below_drew1) | exact HB.out)⟩
                  · replace c11 := Bool.eq_false_iff.mpr c11
                    subst c11
                    have H1 : (if a0 = 9 then (pavaneref08_swap.j2 kj8 a0 a1 a1) else (pavaneref08_swap.j2 kj8 a0 a1 false)) = some r := by rw [if_neg (show ¬ (false = true) by decide)] at H; exact H
                    clear H
                    have H := H1
                    clear H1
                    have HC12 := Aside0.mk H
                    clear H
                    go_upto_region 11 with (fail)
                    go_cut [26] (fun v26 wc => ∃ (kq : Nat) (x26_11 : Bool), v26 = .bool x26_11 ∧ Aside0 (pavaneref08_swap.j2 kq a0 a1 x26_11 = some r) ∧ Aside0 (kq ≤ kj8) ∧ Aside0 (Below w.heap.size w wc))
                    case first =>
                      have H := HC12.out
                      clear HC12
                      by_cases c13 : a0 = 9
                      · rw [if_pos c13] at H
                        have c13b0 : (a0 == 9) = true := beq_iff_eq.mpr c13
                        have c13b1 : (a0 != 9) = false := bne_eq_false_iff_eq.mpr c13
                        clear c13
                        (first | rw [c13b0] | (simp only [i64_w, i32_w]; rw [c13b0]) | skip)
                        have H' := Aside0.mk H
                        clear H
                        go_wp2
                        go_meet
                        case rel => exact ⟨_, (a1), (by first | rfl | (simp; done) | (simp [*]; done)), H', ⟨by have := HJ4.out; have := HJ8.out; first | omega | exact Nat.le_refl _⟩, ⟨by repeat (first | (with_reducible first | exact HB.out | apply below_alloc | apply pw_below_drewN | apply below_drew1) | exact HB.out)⟩⟩
                      · rw [if_neg c13] at H
                        have c13b0 : (a0 == 9) = false := beq_eq_false_iff_ne.mpr c13
                        have c13b1 : (a0 != 9) = true := bne_iff_ne.mpr c13
                        (first | rw [c13b0] | (simp only [i64_w, i32_w]; rw [c13b0]) | skip)
                        have H' := Aside0.mk H
                        clear H
                        go_wp2
                        go_meet
                        case rel => exact ⟨_, (false), (by first | rfl | (simp; done) | (simp [*]; done)), H', ⟨by have := HJ4.out; have := HJ8.out; first | omega | exact Nat.le_refl _⟩, ⟨by repeat (first | (with_reducible first | exact HB.out | apply below_alloc | apply pw_below_drewN | apply below_drew1) | exact HB.out)⟩⟩
                    case rest =>
                      clear HC12
                      try clear c1
                      try clear p2
                      try clear c3
                      try clear c3b0
                      try clear c3b1
                      try clear c4
                      try clear c4b0
                      try clear c4b1
                      try clear c6
                      try clear c6b0
                      try clear c6b1
                      try clear c7
                      try clear c8
                      try clear c8b0
                      try clear c8b1
                      try clear c10
                      try clear c10b0
                      try clear c10b1
                      try clear c11
                      try clear c13
                      try clear c13b0
                      try clear c13b1
                      try clear p2
                      obtain ⟨kq, x26_11, rfl, HA, HJ11, HB⟩ := hcut
                      cases kq with
                      | zero => exact absurd HA.out (by simp [pavaneref08_swap.j2])
                      | succ kj11 =>
                        have H := HA.out
                        clear HA
                        simp only [pavaneref08_swap.j2] at H
                        by_cases c14 : x26_11 = true
                        · subst c14
                          have H1 : (some (⟨#[38, 35, 57, 59]⟩ : ByteArray)) = some r := by rw [if_pos rfl] at H; exact H
                          clear H
                          have H := H1
                          clear H1
                          obtain rfl := Option.some.inj H
                          go_wp2
                          go_ret
                          exact ⟨by first | rfl | (simp [errW_none, errW_some] <;> rfl) | (simp [*, errW_none, errW_some] <;> rfl), by repeat (first | (with_reducible first | exact HB.out | apply below_alloc | apply pw_below_drewN | apply below_drew1) | exact HB.out)⟩
                        · replace c14 := Bool.eq_false_iff.mpr c14
                          subst c14
                          have H1 : (if a0 = 10 then (if a1 = true then (some (⟨#[38, 35, 49, 48, 59]⟩ : ByteArray)) else (some (strOfNums (([a0] : List Int))))) else (some (strOfNums (([a0] : List Int))))) = some r := by rw [if_neg (show ¬ (false = true) by decide)] at H; exact H
                          clear H
                          have H := H1
                          clear H1
                          by_cases c15 : a0 = 10
                          · rw [if_pos c15] at H
                            have c15b0 : (a0 == 10) = true := beq_iff_eq.mpr c15
                            have c15b1 : (a0 != 10) = false := bne_eq_false_iff_eq.mpr c15
                            clear c15
                            by_cases c16 : a1 = true
                            · subst c16
                              have H1 : (some (⟨#[38, 35, 49, 48, 59]⟩ : ByteArray)) = some r := by rw [if_pos rfl] at H; exact H
                              clear H
                              have H := H1
                              clear H1
                              obtain rfl := Option.some.inj H
                              go_wp2
                              go_ret
                              exact ⟨by first | rfl | (simp [errW_none, errW_some] <;> rfl) | (simp [*, errW_none, errW_some] <;> rfl), by repeat (first | (with_reducible first | exact HB.out | apply below_alloc | apply pw_below_drewN | apply below_drew1) | exact HB.out)⟩
                            · replace c16 := Bool.eq_false_iff.mpr c16
                              subst c16
                              have H1 : (some (strOfNums (([a0] : List Int)))) = some r := by rw [if_neg (show ¬ (false = true) by decide)] at H; exact H
                              clear H
                              have H := H1
                              clear H1
                              obtain ⟨y116, hy116⟩ : ∃ y_ : List Int, y_ = (([a0] : List Int)) := ⟨_, rfl⟩
                              replace H : (some (strOfNums y116)) = some r := by first | (rw [hy116]; with_reducible exact H) | (have H2_ := (Option.bind_some _ _).symm.trans H; rw [hy116]; with_reducible exact H2_) | (have H2_ := (Option.bind_some _ _).symm.trans H; with_reducible exact H2_) | with_reducible exact H | (rw [hy116]; exact H) | exact H
                              have Ny116 := Aside0.mk hy116
                              clear hy116
                              obtain rfl := Option.some.inj H
                              go_wp2_with (first | ((with_reducible refine gate_dst (N := 33) rfl ?_); refine Kd.R_lit (Kd.int .u8) _ 5 ?hg (N := 33) ?hd (xs := ([a0] : List Int)) (inner := [.int .u8 a0]) (ok := fun _ => True) (okp := fun _ => True) ?hr ?hp (fun _ hk => hk) trivial (Below.refl _ _) (Nat.le_refl _) (by simp) ?_; (case hd => rfl); (case hg => rfl); (case hr => first | (go_simp; done) | (go_simp; rfl)); (case hp => exact (Reps.one (show Kd.M (Kd.int .u8) _ _ _ a0 [.int .u8 a0] from rfl) (Reps.none _ _))); intro v117 w17 ho18 hb hg_ hnew_; clear hg_ hnew_; (first | rw [← Ny116.out] at ho18 | (simp only [Int.reduceToNat] at ho18; rw [← Ny116.out] at ho18)); have n0_ := Aside0.mk (Kd.R_lower ho18 (below_size (by repeat (first | (with_reducible first | exact HB.out | apply below_alloc | apply pw_below_drewN | apply below_drew1) | exact HB.out)))); have n1_ := Aside0.mk (below_step (by repeat (first | (with_reducible first | exact HB.out | apply below_alloc | apply pw_below_drewN | apply below_drew1) | exact HB.out)) hb); clear HB; have HO118 := n0_; have HB := n1_; clear n0_ n1_; clear hb ho18; have hcv19 := own_string (P := Tryz.prog) Tryz.underlying36 Tryz.underlying5 Tryz.underlying9 (Kd.own_of_R HO118.out)))
                              go_ret
                              exact ⟨by first | rfl | (simp [errW_none, errW_some] <;> rfl) | (simp [*, errW_none, errW_some] <;> rfl), by repeat (first | (with_reducible first | exact HB.out | apply below_alloc | apply pw_below_drewN | apply below_drew1) | exact HB.out)⟩
                          · rw [if_neg c15] at H
                            have c15b0 : (a0 == 10) = false := beq_eq_false_iff_ne.mpr c15
                            have c15b1 : (a0 != 10) = true := bne_iff_ne.mpr c15
                            obtain ⟨y119, hy119⟩ : ∃ y_ : List Int, y_ = (([a0] : List Int)) := ⟨_, rfl⟩
                            replace H : (some (strOfNums y119)) = some r := by first | (rw [hy119]; with_reducible exact H) | (have H2_ := (Option.bind_some _ _).symm.trans H; rw [hy119]; with_reducible exact H2_) | (have H2_ := (Option.bind_some _ _).symm.trans H; with_reducible exact H2_) | with_reducible exact H | (rw [hy119]; exact H) | exact H
                            have Ny119 := Aside0.mk hy119
                            clear hy119
                            obtain rfl := Option.some.inj H
                            go_wp2_with (first | ((with_reducible refine gate_dst (N := 33) rfl ?_); refine Kd.R_lit (Kd.int .u8) _ 5 ?hg (N := 33) ?hd (xs := ([a0] : List Int)) (inner := [.int .u8 a0]) (ok := fun _ => True) (okp := fun _ => True) ?hr ?hp (fun _ hk => hk) trivial (Below.refl _ _) (Nat.le_refl _) (by simp) ?_; (case hd => rfl); (case hg => rfl); (case hr => first | (go_simp; done) | (go_simp; rfl)); (case hp => exact (Reps.one (show Kd.M (Kd.int .u8) _ _ _ a0 [.int .u8 a0] from rfl) (Reps.none _ _))); intro v120 w20 ho21 hb hg_ hnew_; clear hg_ hnew_; (first | rw [← Ny119.out] at ho21 | (simp only [Int.reduceToNat] at ho21; rw [← Ny119.out] at ho21)); have n0_ := Aside0.mk (Kd.R_lower ho21 (below_size (by repeat (first | (with_reducible first | exact HB.out | apply below_alloc | apply pw_below_drewN | apply below_drew1) | exact HB.out)))); have n1_ := Aside0.mk (below_step (by repeat (first | (with_reducible first | exact HB.out | apply below_alloc | apply pw_below_drewN | apply below_drew1) | exact HB.out)) hb); clear HB; have HO121 := n0_; have HB := n1_; clear n0_ n1_; clear hb ho21; have hcv22 := own_string (P := Tryz.prog) Tryz.underlying36 Tryz.underlying5 Tryz.underlying9 (Kd.own_of_R HO121.out)))
                            go_ret
                            exact ⟨by first | rfl | (simp [errW_none, errW_some] <;> rfl) | (simp [*, errW_none, errW_some] <;> rfl), by repeat (first | (with_reducible first | exact HB.out | apply below_alloc | apply pw_below_drewN | apply below_drew1) | exact HB.out)⟩

end Go.Proofs.YtokdclmikllepaaGreatDoorP
namespace Go.Proofs.YtokdclmikllepaaGreatDoorP
open Go.RowKit Go.Proofs.YtokdclmikllepaaGreatDoorW.PrintWords Go.Proofs.YtokdclmikllepaaGreatDoorW.PrintLast Go.Proofs.YtokdclmikllepaaGreatDoorW.PrintMore
attribute [local go_sem] max2_int min2_int max_two min_two max_three min_three max_four min_four   -- for this text's walks alone
set_option linter.unusedVariables false
set_option linter.unusedSimpArgs false
def pavaneref08_Escape.l0 : Nat → ByteArray → List Int → Int → Option (ByteArray)
  | 0, _, _, _ => none
  | k + 1, x0, x3, x4 => if x4 < (x0.size : Int) then (if 0 ≤ x4 then ((pavaneref08_swap.f k (bt x0 x4) false).bind fun t122 => (if x3.length + t122.size < 140737488355328 then (pavaneref08_Escape.l0 k x0 (x3 ++ bytesOf t122) (wrap64 (x4 + 1))) else (none))) else (none)) else (some (strOfNums x3))
def pavaneref08_Escape.f (k : Nat) (a0 : ByteArray) : Option (ByteArray) := pavaneref08_Escape.l0 k a0 ([] : List Int) 0
theorem pavaneref08_Escape.mono_l : ∀ k, (∀ y0 y1 y2, LeO (pavaneref08_Escape.l0 k y0 y1 y2) (pavaneref08_Escape.l0 (k + 1) y0 y1 y2))
  | 0 => fun _ _ _ r h => by simp [pavaneref08_Escape.l0] at h
  | k + 1 => by
    have ih0 := pavaneref08_Escape.mono_l k
    · intro y0 y1 y2
      unfold pavaneref08_Escape.l0
      repeat' first
      | (with_reducible exact ih0 _ _ _)
      | (with_reducible exact pavaneref08_swap.mono _ _ _)
      | (with_reducible exact LeO.refl _)
      | (with_reducible exact LeO.none _)
      | (with_reducible refine LeO.ite ?_ ?_)
      | (with_reducible refine LeO.bind ?_ (fun _ => ?_))
      | exact ih0 _ _ _
      | exact pavaneref08_swap.mono _ _ _
      | exact LeO.none _
      | refine LeO.ite ?_ ?_
      | refine LeO.bind ?_ (fun _ => ?_)
theorem pavaneref08_Escape.mono : ∀ a0 k, LeO (pavaneref08_Escape.f k a0) (pavaneref08_Escape.f (k + 1) a0) := by
  intro a0 k
  have ih0 := pavaneref08_Escape.mono_l k
  unfold pavaneref08_Escape.f
  repeat' first
      | (with_reducible exact ih0 _ _ _)
      | (with_reducible exact pavaneref08_swap.mono _ _ _)
      | (with_reducible exact LeO.refl _)
      | (with_reducible exact LeO.none _)
      | (with_reducible refine LeO.ite ?_ ?_)
      | (with_reducible refine LeO.bind ?_ (fun _ => ?_))
      | exact ih0 _ _ _
      | exact pavaneref08_swap.mono _ _ _
      | exact LeO.none _
      | refine LeO.ite ?_ ?_
      | refine LeO.bind ?_ (fun _ => ?_)
set_option maxHeartbeats 8000000 in
set_option maxRecDepth 100000 in
theorem pavaneref08_Escape.calls (k : Nat) (a0 : ByteArray) (r : ByteArray) (w : World) (h : pavaneref08_Escape.f k a0 = some r) :
    Calls Tryz.prog 26 #[.string a0] w fun e w' => e = .returned (.string r) ∧ Below w.heap.size w w' := by
  have HB := Aside0.mk (Below.refl w.heap.size w)
  have H : (pavaneref08_Escape.l0 k a0 ([] : List Int) 0) = some r := h
  clear h
  have H' := Aside0.mk H
  clear H
  go_enter Tryz.func26, Tryz.ntmps26
  go_wp2
  go_loopg [3, 4] k (fun kq v3 v4 w' => ∃ (x3_1 : List Int) (x4_1 : Int), v4 = .int .i64 x4_1 ∧ Aside0 (pavaneref08_Escape.l0 kq a0 x3_1 x4_1 = some r) ∧ Aside0 (kq ≤ k) ∧ Aside0 (Kd.R (Kd.int .u8) 5 w' w.heap.size (fun _ => True) v3 x3_1) ∧ Aside0 (Below w.heap.size w w'))
  case atStart => exact ⟨(([] : List Int)), (0), (by first | rfl | (simp; done) | (simp [*]; done)), H', ⟨Nat.le_refl _⟩, ⟨by first | exact Kd.R_nil _ _ _ _ _ | exact Kd.N_nil _ _ _ _ _ | exact Kd.V_nil _ _ _ _ _ | exact Kd.Q_nil _ _ _ _ _ | exact Kd.S_nil _ _ _ _ _⟩, ⟨by repeat (first | (with_reducible first | exact HB.out | apply below_alloc | apply pw_below_drewN | apply below_drew1) | exact HB.out)⟩⟩
  case round =>
    clear H'
    obtain ⟨x3_1, x4_1, rfl, HA, HK1, HO_3, HB⟩ := hrel
    cases gk with
    | zero => exact absurd HA.out (by simp [pavaneref08_Escape.l0])
    | succ k1 =>
      have H := HA.out
      clear HA
      simp only [pavaneref08_Escape.l0] at H
      by_cases c2 : x4_1 < (a0.size : Int)
      · rw [if_pos c2] at H
        have c2b0 : decide (x4_1 < (a0.size : Int)) = true := decide_eq_true c2
        clear c2
        by_cases c3 : 0 ≤ x4_1
        · rw [if_pos c3] at H
          have c3b0 : decide (0 ≤ x4_1) = true := decide_eq_true c3
          clear c3
          replace H := Option.bind_eq_some_iff.mp H
          obtain ⟨t122, A50, H⟩ := H
          replace H : (if x3_1.length + t122.size < 140737488355328 then (pavaneref08_Escape.l0 k1 a0 (x3_1 ++ bytesOf t122) (wrap64 (x4_1 + 1))) else (none)) = some r := H
          have A5 := Aside0.mk A50
          clear A50
          by_cases c6 : x3_1.length + t122.size < 140737488355328
          · rw [if_pos c6] at H
            have LMc6 := Aside0.mk c6
            clear c6
            obtain ⟨y123, hy123⟩ : ∃ y_ : List Int, y_ = (x3_1 ++ bytesOf t122) := ⟨_, rfl⟩
            replace H : (pavaneref08_Escape.l0 k1 a0 y123 (wrap64 (x4_1 + 1))) = some r := by first | (rw [hy123]; with_reducible exact H) | (have H2_ := (Option.bind_some _ _).symm.trans H; rw [hy123]; with_reducible exact H2_) | (have H2_ := (Option.bind_some _ _).symm.trans H; with_reducible exact H2_) | with_reducible exact H | (rw [hy123]; exact H) | exact H
            have Ny123 := Aside0.mk hy123
            clear hy123
            have H' := Aside0.mk H
            clear H
            have p4 : 0 ≤ (x4_1 : Int) := of_decide_eq_true (by first | (with_reducible assumption) | assumption)
            have q4 : x4_1 < (a0.size : Int) := of_decide_eq_true (by first | (with_reducible assumption) | assumption)
            have hx4 := bt_at a0 x4_1
            replace p4 := eq_true p4
            replace q4 := eq_true q4
            go_wp2_with (first | ((with_reducible refine gate_callee (f := 63) rfl ?_); refine goesL_ (some 15) rfl rfl Tryz.func63 (by kernel_rfl) rfl #[.int .u8 (bt a0 x4_1), .bool false] rfl (by (try simp only [List.map_toArray, List.map_cons, List.map_nil]); first | done | rfl | (simp only [List.length_drop, List.length_take]; rfl)) ?_; (with_reducible refine (pavaneref08_swap.calls k1 (bt a0 x4_1) false t122 _ A5.out).mono ?_); rintro e w7 ⟨rfl, hb⟩; refine ⟨_, rfl, ?_⟩; have n0_ := Aside0.mk (Kd.R_below (by (with_reducible repeat (first | apply Kd.R_alloc | apply Kd.R_drewN | apply Kd.R_drew)); exact HO_3.out) hb); have n1_ := Aside0.mk (below_step (by repeat (first | (with_reducible first | exact HB.out | apply below_alloc | apply pw_below_drewN | apply below_drew1) | exact HB.out)) hb); clear HO_3; clear HB; have HO_3 := n0_; have HB := n1_; clear n0_ n1_; (try clear hb); (try clear hb2); (try clear hk); (try clear hi)) | (at_builtin; refine print_append_str (w0 := w) w.heap.size rfl (.tmp 11) _ 36 9 5 rfl Tryz.underlying36 Tryz.underlying9 info5 u3 x3_1 t122 rfl rfl ?aO ?aB ?aS ?aL ?_; (case aB => exact (by repeat (first | (with_reducible first | exact HB.out | apply below_alloc | apply pw_below_drewN | apply below_drew1) | exact HB.out))); (case aO => exact (Kd.own_of_R (by (with_reducible repeat (first | apply Kd.R_alloc | apply Kd.R_drewN | apply Kd.R_drew)); exact HO_3.out))); (case aS => exact (below_size (by repeat (first | (with_reducible first | exact HB.out | apply below_alloc | apply pw_below_drewN | apply below_drew1) | exact HB.out)))); (case aL => have := LMc6.out; omega); intro v124 w8 ho0 hb hg; have ho := Kd.R_of_own (h1 := fun _ => rfl) (ok := fun _ => True) ho0 (fun _ _ => trivial); clear ho0; have hat := True.intro; rw [← Ny123.out] at ho; change Kd.R (Kd.int .u8) 5 w8 w.heap.size (fun _ => True) v124 y123 at ho; have n0_ := Aside0.mk (hb); have n1_ := Aside0.mk (ho); clear HB; clear HO_3; have HB := n0_; have HO125 := n1_; clear n0_ n1_; clear ho hb hg hat))
            go_roundg k1
            case measure => have := HK1.out; omega
            case rel => exact ⟨(y123), (wrap64 (x4_1 + 1)), (by first | rfl | (simp; done) | (simp [*]; done)), H', ⟨by have := HK1.out; omega⟩, ⟨by (with_reducible repeat (first | apply Kd.R_alloc | apply Kd.R_drewN | apply Kd.R_drew)); exact HO125.out⟩, ⟨by repeat (first | (with_reducible first | exact HB.out | apply below_alloc | apply pw_below_drewN | apply below_drew1) | exact HB.out)⟩⟩
          · rw [if_neg c6] at H
            exact absurd H (by simp)
        · rw [if_neg c3] at H
          exact absurd H (by simp)
      · rw [if_neg c2] at H
        have c2b0 : decide (x4_1 < (a0.size : Int)) = false := decide_eq_false c2
        clear c2
        obtain rfl := Option.some.inj H
        have hcv9 := own_string (P := Tryz.prog) Tryz.underlying36 Tryz.underlying5 Tryz.underlying9 (Kd.own_of_R HO_3.out)
        go_wp2
        go_ret
        exact ⟨by first | rfl | (simp [errW_none, errW_some] <;> rfl) | (simp [*, errW_none, errW_some] <;> rfl), by repeat (first | (with_reducible first | exact HB.out | apply below_alloc | apply pw_below_drewN | apply below_drew1) | exact HB.out)⟩

end Go.Proofs.YtokdclmikllepaaGreatDoorP
namespace Go.Proofs.YtokdclmikllepaaGreatDoorP
open Go.RowKit Go.Proofs.YtokdclmikllepaaGreatDoorW.PrintWords Go.Proofs.YtokdclmikllepaaGreatDoorW.PrintLast Go.Proofs.YtokdclmikllepaaGreatDoorW.PrintMore
attribute [local go_sem] max2_int min2_int max_two min_two max_three min_three max_four min_four   -- for this text's walks alone
set_option linter.unusedVariables false
set_option linter.unusedSimpArgs false
def pavaneref08_Quote.l0 : Nat → ByteArray → List Int → Int → Option (ByteArray)
  | 0, _, _, _ => none
  | k + 1, x0, x3, x4 => if x4 < (x0.size : Int) then (if 0 ≤ x4 then ((pavaneref08_swap.f k (bt x0 x4) true).bind fun t129 => (if x3.length + t129.size < 140737488355328 then (pavaneref08_Quote.l0 k x0 (x3 ++ bytesOf t129) (wrap64 (x4 + 1))) else (none))) else (none)) else (if x3.length < 140737488355328 then (some (strOfNums (x3 ++ [34]))) else (none))
def pavaneref08_Quote.f (k : Nat) (a0 : ByteArray) : Option (ByteArray) := pavaneref08_Quote.l0 k a0 (([34] : List Int)) 0
theorem pavaneref08_Quote.mono_l : ∀ k, (∀ y0 y1 y2, LeO (pavaneref08_Quote.l0 k y0 y1 y2) (pavaneref08_Quote.l0 (k + 1) y0 y1 y2))
  | 0 => fun _ _ _ r h => by simp [pavaneref08_Quote.l0] at h
  | k + 1 => by
    have ih0 := pavaneref08_Quote.mono_l k
    · intro y0 y1 y2
      unfold pavaneref08_Quote.l0
      repeat' first
      | (with_reducible exact ih0 _ _ _)
      | (with_reducible exact pavaneref08_swap.mono _ _ _)
      | (with_reducible exact LeO.refl _)
      | (with_reducible exact LeO.none _)
      | (with_reducible refine LeO.ite ?_ ?_)
      | (with_reducible refine LeO.bind ?_ (fun _ => ?_))
      | exact ih0 _ _ _
      | exact pavaneref08_swap.mono _ _ _
      | exact LeO.none _
      | refine LeO.ite ?_ ?_
      | refine LeO.bind ?_ (fun _ => ?_)
theorem pavaneref08_Quote.mono : ∀ a0 k, LeO (pavaneref08_Quote.f k a0) (pavaneref08_Quote.f (k + 1) a0) := by
  intro a0 k
  have ih0 := pavaneref08_Quote.mono_l k
  unfold pavaneref08_Quote.f
  repeat' first
      | (with_reducible exact ih0 _ _ _)
      | (with_reducible exact pavaneref08_swap.mono _ _ _)
      | (with_reducible exact LeO.refl _)
      | (with_reducible exact LeO.none _)
      | (with_reducible refine LeO.ite ?_ ?_)
      | (with_reducible refine LeO.bind ?_ (fun _ => ?_))
      | exact ih0 _ _ _
      | exact pavaneref08_swap.mono _ _ _
      | exact LeO.none _
      | refine LeO.ite ?_ ?_
      | refine LeO.bind ?_ (fun _ => ?_)
set_option maxHeartbeats 8000000 in
set_option maxRecDepth 100000 in
theorem pavaneref08_Quote.calls (k : Nat) (a0 : ByteArray) (r : ByteArray) (w : World) (h : pavaneref08_Quote.f k a0 = some r) :
    Calls Tryz.prog 27 #[.string a0] w fun e w' => e = .returned (.string r) ∧ Below w.heap.size w w' := by
  have HB := Aside0.mk (Below.refl w.heap.size w)
  have H : (pavaneref08_Quote.l0 k a0 (([34] : List Int)) 0) = some r := h
  clear h
  obtain ⟨y126, hy126⟩ : ∃ y_ : List Int, y_ = (([34] : List Int)) := ⟨_, rfl⟩
  replace H : (pavaneref08_Quote.l0 k a0 y126 0) = some r := by first | (rw [hy126]; with_reducible exact H) | (have H2_ := (Option.bind_some _ _).symm.trans H; rw [hy126]; with_reducible exact H2_) | (have H2_ := (Option.bind_some _ _).symm.trans H; with_reducible exact H2_) | with_reducible exact H | (rw [hy126]; exact H) | exact H
  have Ny126 := Aside0.mk hy126
  clear hy126
  have H' := Aside0.mk H
  clear H
  go_enter Tryz.func27, Tryz.ntmps27
  go_wp2_with (first | ((with_reducible refine gate_dst (N := 5) rfl ?_); refine Kd.R_lit (Kd.int .u8) _ 5 ?hg (N := 5) ?hd (xs := ([34] : List Int)) (inner := [.int .u8 34]) (ok := fun _ => True) (okp := fun _ => True) ?hr ?hp (fun _ hk => hk) trivial (Below.refl _ _) (Nat.le_refl _) (by simp) ?_; (case hd => rfl); (case hg => rfl); (case hr => first | (go_simp; done) | (go_simp; rfl)); (case hp => exact (Reps.one (show Kd.M (Kd.int .u8) _ _ _ 34 [.int .u8 34] from rfl) (Reps.none _ _))); intro v127 w2 ho3 hb hg_ hnew_; clear hg_ hnew_; (first | rw [← Ny126.out] at ho3 | (simp only [Int.reduceToNat] at ho3; rw [← Ny126.out] at ho3)); have n0_ := Aside0.mk (Kd.R_lower ho3 (below_size (by repeat (first | (with_reducible first | exact HB.out | apply below_alloc | apply pw_below_drewN | apply below_drew1) | exact HB.out)))); have n1_ := Aside0.mk (below_step (by repeat (first | (with_reducible first | exact HB.out | apply below_alloc | apply pw_below_drewN | apply below_drew1) | exact HB.out)) hb); clear HB; have HO128 := n0_; have HB := n1_; clear n0_ n1_; clear hb ho3))
  go_loopg [3, 4] k (fun kq v3 v4 w' => ∃ (x3_1 : List Int) (x4_1 : Int), v4 = .int .i64 x4_1 ∧ Aside0 (pavaneref08_Quote.l0 kq a0 x3_1 x4_1 = some r) ∧ Aside0 (kq ≤ k) ∧ Aside0 (Kd.R (Kd.int .u8) 5 w' w.heap.size (fun _ => True) v3 x3_1) ∧ Aside0 (Below w.heap.size w w'))
  case atStart => exact ⟨(y126), (0), (by first | rfl | (simp; done) | (simp [*]; done)), H', ⟨Nat.le_refl _⟩, ⟨by (with_reducible repeat (first | apply Kd.R_alloc | apply Kd.R_drewN | apply Kd.R_drew)); exact HO128.out⟩, ⟨by repeat (first | (with_reducible first | exact HB.out | apply below_alloc | apply pw_below_drewN | apply below_drew1) | exact HB.out)⟩⟩
  case round =>
    clear H'
    try clear c2
    try clear p2
    obtain ⟨x3_1, x4_1, rfl, HA, HK1, HO_3, HB⟩ := hrel
    cases gk with
    | zero => exact absurd HA.out (by simp [pavaneref08_Quote.l0])
    | succ k1 =>
      have H := HA.out
      clear HA
      simp only [pavaneref08_Quote.l0] at H
      by_cases c4 : x4_1 < (a0.size : Int)
      · rw [if_pos c4] at H
        have c4b0 : decide (x4_1 < (a0.size : Int)) = true := decide_eq_true c4
        clear c4
        by_cases c5 : 0 ≤ x4_1
        · rw [if_pos c5] at H
          have c5b0 : decide (0 ≤ x4_1) = true := decide_eq_true c5
          clear c5
          replace H := Option.bind_eq_some_iff.mp H
          obtain ⟨t129, A70, H⟩ := H
          replace H : (if x3_1.length + t129.size < 140737488355328 then (pavaneref08_Quote.l0 k1 a0 (x3_1 ++ bytesOf t129) (wrap64 (x4_1 + 1))) else (none)) = some r := H
          have A7 := Aside0.mk A70
          clear A70
          by_cases c8 : x3_1.length + t129.size < 140737488355328
          · rw [if_pos c8] at H
            have LMc8 := Aside0.mk c8
            clear c8
            obtain ⟨y130, hy130⟩ : ∃ y_ : List Int, y_ = (x3_1 ++ bytesOf t129) := ⟨_, rfl⟩
            replace H : (pavaneref08_Quote.l0 k1 a0 y130 (wrap64 (x4_1 + 1))) = some r := by first | (rw [hy130]; with_reducible exact H) | (have H2_ := (Option.bind_some _ _).symm.trans H; rw [hy130]; with_reducible exact H2_) | (have H2_ := (Option.bind_some _ _).symm.trans H; with_reducible exact H2_) | with_reducible exact H | (rw [hy130]; exact H) | exact H
            have Ny130 := Aside0.mk hy130
            clear hy130
            have H' := Aside0.mk H
            clear H
            have p6 : 0 ≤ (x4_1 : Int) := of_decide_eq_true (by first | (with_reducible assumption) | assumption)
            have q6 : x4_1 < (a0.size : Int) := of_decide_eq_true (by first | (with_reducible assumption) | assumption)
            have hx6 := bt_at a0 x4_1
            replace p6 := eq_true p6
            replace q6 := eq_true q6
            go_wp2_with (first | ((with_reducible refine gate_callee (f := 63) rfl ?_); refine goesL_ (some 16) rfl rfl Tryz.func63 (by kernel_rfl) rfl #[.int .u8 (bt a0 x4_1), .bool true] rfl (by (try simp only [List.map_toArray, List.map_cons, List.map_nil]); first | done | rfl | (simp only [List.length_drop, List.length_take]; rfl)) ?_; (with_reducible refine (pavaneref08_swap.calls k1 (bt a0 x4_1) true t129 _ A7.out).mono ?_); rintro e w9 ⟨rfl, hb⟩; refine ⟨_, rfl, ?_⟩; have n0_ := Aside0.mk (Kd.R_below (by (with_reducible repeat (first | apply Kd.R_alloc | apply Kd.R_drewN | apply Kd.R_drew)); exact HO_3.out) hb); have n1_ := Aside0.mk (below_step (by repeat (first | (with_reducible first | exact HB.out | apply below_alloc | apply pw_below_drewN | apply below_drew1) | exact HB.out)) hb); clear HO_3; clear HB; have HO_3 := n0_; have HB := n1_; clear n0_ n1_; (try clear hb); (try clear hb2); (try clear hk); (try clear hi)) | (at_builtin; refine print_append_str (w0 := w) w.heap.size rfl (.tmp 12) _ 36 9 5 rfl Tryz.underlying36 Tryz.underlying9 info5 u3 x3_1 t129 rfl rfl ?aO ?aB ?aS ?aL ?_; (case aB => exact (by repeat (first | (with_reducible first | exact HB.out | apply below_alloc | apply pw_below_drewN | apply below_drew1) | exact HB.out))); (case aO => exact (Kd.own_of_R (by (with_reducible repeat (first | apply Kd.R_alloc | apply Kd.R_drewN | apply Kd.R_drew)); exact HO_3.out))); (case aS => exact (below_size (by repeat (first | (with_reducible first | exact HB.out | apply below_alloc | apply pw_below_drewN | apply below_drew1) | exact HB.out)))); (case aL => have := LMc8.out; omega); intro v131 w10 ho0 hb hg; have ho := Kd.R_of_own (h1 := fun _ => rfl) (ok := fun _ => True) ho0 (fun _ _ => trivial); clear ho0; have hat := True.intro; rw [← Ny130.out] at ho; change Kd.R (Kd.int .u8) 5 w10 w.heap.size (fun _ => True) v131 y130 at ho; have n0_ := Aside0.mk (hb); have n1_ := Aside0.mk (ho); clear HB; clear HO_3; have HB := n0_; have HO132 := n1_; clear n0_ n1_; clear ho hb hg hat))
            go_roundg k1
            case measure => have := HK1.out; omega
            case rel => exact ⟨(y130), (wrap64 (x4_1 + 1)), (by first | rfl | (simp; done) | (simp [*]; done)), H', ⟨by have := HK1.out; omega⟩, ⟨by (with_reducible repeat (first | apply Kd.R_alloc | apply Kd.R_drewN | apply Kd.R_drew)); exact HO132.out⟩, ⟨by repeat (first | (with_reducible first | exact HB.out | apply below_alloc | apply pw_below_drewN | apply below_drew1) | exact HB.out)⟩⟩
          · rw [if_neg c8] at H
            exact absurd H (by simp)
        · rw [if_neg c5] at H
          exact absurd H (by simp)
      · rw [if_neg c4] at H
        have c4b0 : decide (x4_1 < (a0.size : Int)) = false := decide_eq_false c4
        clear c4
        by_cases c11 : x3_1.length < 140737488355328
        · rw [if_pos c11] at H
          have LMc11 := Aside0.mk c11
          clear c11
          obtain ⟨y133, hy133⟩ : ∃ y_ : List Int, y_ = (x3_1 ++ [34]) := ⟨_, rfl⟩
          replace H : (some (strOfNums y133)) = some r := by first | (rw [hy133]; with_reducible exact H) | (have H2_ := (Option.bind_some _ _).symm.trans H; rw [hy133]; with_reducible exact H2_) | (have H2_ := (Option.bind_some _ _).symm.trans H; with_reducible exact H2_) | with_reducible exact H | (rw [hy133]; exact H) | exact H
          have Ny133 := Aside0.mk hy133
          clear hy133
          obtain rfl := Option.some.inj H
          go_wp2_with (first | ((with_reducible refine gate_builtin (b := .append) (xs := #[.tmp 18, .tmp 19]) rfl ?_); at_builtin; refine Kd.R_append (Kd.int .u8) (w0 := w) w.heap.size rfl (.tmp 18) (.tmp 19) 36 5 (.int .u8 0) 1 rfl Tryz.underlying36 info5 rfl (by decide) (by omega) u3 x3_1 34 [.int .u8 34] (fun _ => True) (fun _ => False) rfl rfl ?aP (fun _ hk => hk.elim) ?aF ?aO ?aB ?aS ?aL ?_; (case aP => exact rfl); (case aB => exact (by repeat (first | (with_reducible first | exact HB.out | apply below_alloc | apply pw_below_drewN | apply below_drew1) | exact HB.out))); (case aF => exact (fun _ _ => trivial)); (case aO => exact (by (with_reducible repeat (first | apply Kd.R_alloc | apply Kd.R_drewN | apply Kd.R_drew)); exact HO_3.out)); (case aS => exact (below_size (by repeat (first | (with_reducible first | exact HB.out | apply below_alloc | apply pw_below_drewN | apply below_drew1) | exact HB.out)))); (case aL => have := LMc11.out; omega); intro v134 w12 ho hb hg hat; rw [← Ny133.out] at ho; have n0_ := Aside0.mk (hb); have n1_ := Aside0.mk (ho); clear HB; clear HO_3; have HB := n0_; have HO135 := n1_; clear n0_ n1_; clear ho hb hg hat; have hcv13 := own_string (P := Tryz.prog) Tryz.underlying36 Tryz.underlying5 Tryz.underlying9 (Kd.own_of_R HO135.out)))
          go_ret
          exact ⟨by first | rfl | (simp [errW_none, errW_some] <;> rfl) | (simp [*, errW_none, errW_some] <;> rfl), by repeat (first | (with_reducible first | exact HB.out | apply below_alloc | apply pw_below_drewN | apply below_drew1) | exact HB.out)⟩
        · rw [if_neg c11] at H
          exact absurd H (by simp)

end Go.Proofs.YtokdclmikllepaaGreatDoorP
