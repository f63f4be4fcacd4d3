/- A part of the proof: lemmas and contracts of functions (printed or written by the session's program, and by hand), in dependency order. -/
import Derived.Test.YtdeeffahfkndkaaQOrder3
namespace Go.Proofs.Ytdeeffahfkndkaa.P
open Go.RowKit Go.Proofs.YtdeeffahfkndkaaW.PrintWords Go.Proofs.YtdeeffahfkndkaaW.PrintLast Go.Proofs.YtdeeffahfkndkaaW.PrintMore
attribute [local go_sem] max2_int min2_int max_two min_two max_three min_three max_four min_four
set_option linter.unusedVariables false
set_option linter.unusedSimpArgs false
mutual
def columbarylaw13_Fits.j0 : Nat → List (S39) → Bool → List ByteArray → List ByteArray → Option (Bool)
 | 0, _, _, _, _ => none
 | k + 1, x1, x30, x189000, x189001 => if x30 = true then (some false) else (columbarylaw13_Fits.l0 k x1 0 x189000 x189001)
def columbarylaw13_Fits.l0 : Nat → List (S39) → Int → List ByteArray → List ByteArray → Option (Bool)
 | 0, _, _, _, _ => none
 | k + 1, x1, x7, x189000, x189001 => if x7 < (x1.length : Int) then (if 0 ≤ x7 then ((columbaryref13_Right.f k x189000 x189001 ((rd_T39 x1 x7).f0) ((rd_T39 x1 x7).f1) ((rd_T39 x1 x7).f2) ((rd_T39 x1 x7).f3)).bind fun t193 => (if t193 = true then (columbarylaw13_Fits.l0 k x1 (wrap64 (x7 + 1)) x189000 x189001) else (some false))) else (none)) else (some true)
end
def columbarylaw13_Fits.f (k : Nat) (l0_0 : List ByteArray) (l0_1 : List ByteArray) (l1 : List (S39)) : Option (Bool) := (columbarylaw10_Fits.f k l0_0).bind fun t189 => ((columbarylaw10_Fits.f k l0_1).bind fun t190 => (if t189 = true then (if t190 = true then (if (l1.length : Int) > 120 then (columbarylaw13_Fits.j0 k l1 true l0_0 l0_1) else ((columbaryref10_Right.f k l0_0 l0_1).bind fun t191 => (columbarylaw13_Fits.j0 k l1 (!t191) l0_0 l0_1))) else (columbarylaw13_Fits.j0 k l1 true l0_0 l0_1)) else (columbarylaw13_Fits.j0 k l1 true l0_0 l0_1)))
set_option maxHeartbeats 8000000 in
set_option maxRecDepth 100000 in
theorem columbarylaw13_Fits.calls (k : Nat) (A0_0 : Option Addr) (c0_0 : Nat) (l0_0 : List ByteArray) (A0_1 : Option Addr) (c0_1 : Nat) (l0_1 : List ByteArray) (A1 : Option Addr) (c1 : Nat) (l1 : List (S39)) (r : Bool) (w : World) (hr0_0 : Kd.C Kd.string w A0_0 l0_0.length l0_0) (hc0_0 : l0_0.length ≤ c0_0) (hr0_1 : Kd.C Kd.string w A0_1 l0_1.length l0_1) (hc0_1 : l0_1.length ≤ c0_1) (hr1 : Kd.C k39 w A1 l1.length l1) (hc1 : l1.length ≤ c1) (h : columbarylaw13_Fits.f k l0_0 l0_1 l1 = some r) :
  Calls Try.prog 15 #[.agg #[.slice A0_0 l0_0.length c0_0, .slice A0_1 l0_1.length c0_1], .slice A1 l1.length c1] w fun e w' => e = .returned (.bool r) ∧ Below w.heap.size w w' := by
 have hu24 := Try.underlying24
 have hu39 := Try.underlying39
 have HR0_0 := Z0.mk hr0_0
 have HC0_0 := Z0.mk hc0_0
 clear hr0_0 hc0_0
 have HR0_1 := Z0.mk hr0_1
 have HC0_1 := Z0.mk hc0_1
 clear hr0_1 hc0_1
 have HR1 := Z0.mk hr1
 have HC1 := Z0.mk hc1
 clear hr1 hc1
 have HB := Z0.mk (Below.refl w.heap.size w)
 have H : ((columbarylaw10_Fits.f k l0_0).bind fun t189 => ((columbarylaw10_Fits.f k l0_1).bind fun t190 => (if t189 = true then (if t190 = true then (if (l1.length : Int) > 120 then (columbarylaw13_Fits.j0 k l1 true l0_0 l0_1) else ((columbaryref10_Right.f k l0_0 l0_1).bind fun t191 => (columbarylaw13_Fits.j0 k l1 (!t191) l0_0 l0_1))) else (columbarylaw13_Fits.j0 k l1 true l0_0 l0_1)) else (columbarylaw13_Fits.j0 k l1 true l0_0 l0_1)))) = some r := h
 clear h
 replace H := Option.bind_eq_some_iff.mp H
 obtain ⟨t189, A30, H⟩ := H
 replace H : ((columbarylaw10_Fits.f k l0_1).bind fun t190 => (if t189 = true then (if t190 = true then (if (l1.length : Int) > 120 then (columbarylaw13_Fits.j0 k l1 true l0_0 l0_1) else ((columbaryref10_Right.f k l0_0 l0_1).bind fun t191 => (columbarylaw13_Fits.j0 k l1 (!t191) l0_0 l0_1))) else (columbarylaw13_Fits.j0 k l1 true l0_0 l0_1)) else (columbarylaw13_Fits.j0 k l1 true l0_0 l0_1))) = some r := H
 have A3 := Z0.mk A30
 clear A30
 replace H := Option.bind_eq_some_iff.mp H
 obtain ⟨t190, A40, H⟩ := H
 replace H : (if t189 = true then (if t190 = true then (if (l1.length : Int) > 120 then (columbarylaw13_Fits.j0 k l1 true l0_0 l0_1) else ((columbaryref10_Right.f k l0_0 l0_1).bind fun t191 => (columbarylaw13_Fits.j0 k l1 (!t191) l0_0 l0_1))) else (columbarylaw13_Fits.j0 k l1 true l0_0 l0_1)) else (columbarylaw13_Fits.j0 k l1 true l0_0 l0_1)) = some r := H
 have A4 := Z0.mk A40
 clear A40
 have HC5 := Z0.mk H
 clear H
 go_enter Try.func15, Try.ntmps15
 go_upto_region 3 with (first | ((with_reducible refine gate_dst (N := 2) rfl ?_); (try (refine gate_guard (by rfl) ?_; dsimp only)); refine box_event ?hg (N := 2) ?hd (cs := #[.slice A0_0 l0_0.length c0_0, .slice A0_1 l0_1.length c0_1]) (t := 24) ?hr ?_; (case hd => rfl); (case hg => rfl); (case hr => first | (go_simp; done) | (go_simp; rfl)); intro gb188 hg w6 hbox hb; have n0_ := Z0.mk (below_step (by repeat (first | (with_reducible first | exact HB.out | apply beA | apply bpN | apply bd1) | exact HB.out)) hb); have n1_ := Z0.mk (hbox); have n2_ := Z0.mk ((by rw [hg]; exact (below_size (by repeat (first | (with_reducible first | exact HB.out | apply beA | apply bpN | apply bd1) | exact HB.out))) : w.heap.size ≤ gb188)); have n3_ := Z0.mk ((by rw [hg]; exact (below_size (by repeat (first | (with_reducible first | exact HB.out | apply beA | apply bpN | apply bd1) | exact HB.out))) : w.heap.size ≤ gb188)); clear HB; have HB := n0_; have BK188 := n1_; have GW188 := n2_; have GE188 := n3_; clear n0_ n1_ n2_ n3_; clear hb hbox hg; have hcz7_0 : w6.cell? ⟨gb188, 0, none⟩ = some (.slice A0_0 l0_0.length c0_0) := (bCe BK188.out 0).trans rfl; have hcz7_1 : w6.cell? ⟨gb188, 1, none⟩ = some (.slice A0_1 l0_1.length c0_1) := (bCe BK188.out 1).trans rfl; have hfz7_0 := bFz BK188.out 0; have hfz7_1 := bFz BK188.out 1) | ((with_reducible refine gate_callee (f := 33) rfl ?_); refine goesL_ (some 11) rfl rfl Try.func33 (by kernel_rfl) rfl #[.slice A0_0 l0_0.length c0_0] rfl (by (try simp only [List.map_toArray, List.map_cons, List.map_nil]); first | done | rfl | (simp only [List.length_drop, List.length_take]; rfl)) ?_; (with_reducible refine (columbarylaw10_Fits.calls k _ _ l0_0 t189 _ ?side1 ?side2 A3.out).mono ?_); (case side1 => repeat (first | exact (Kd.C_below HR0_0.out HB.out) | (with_reducible refine Kd.C_alloc ?_ _) | (with_reducible refine Kd.C_drewN ?_ _) | (with_reducible refine Kd.C_drew ?_))); (case side2 => exact HC0_0.out); rintro e w' ⟨rfl, ⟨nd, rfl⟩⟩; refine ⟨_, rfl, ?_⟩) | ((with_reducible refine gate_callee (f := 33) rfl ?_); refine goesL_ (some 14) rfl rfl Try.func33 (by kernel_rfl) rfl #[.slice A0_1 l0_1.length c0_1] rfl (by (try simp only [List.map_toArray, List.map_cons, List.map_nil]); first | done | rfl | (simp only [List.length_drop, List.length_take]; rfl)) ?_; (with_reducible refine (columbarylaw10_Fits.calls k _ _ l0_1 t190 _ ?side1 ?side2 A4.out).mono ?_); (case side1 => repeat (first | exact (Kd.C_below HR0_1.out (by repeat (first | (with_reducible first | exact HB.out | apply beA | apply bpN | apply bd1 | refine beS ?_ GE188.out) | exact HB.out))) | (with_reducible refine Kd.C_alloc ?_ _) | (with_reducible refine Kd.C_drewN ?_ _) | (with_reducible refine Kd.C_drew ?_))); (case side2 => exact HC0_1.out); rintro e w' ⟨rfl, ⟨nd, rfl⟩⟩; refine ⟨_, rfl, ?_⟩))
 (try simp only [Act.put, qA, qB, qC])
 go_cut [30] (fun v30 wc => ∃ (kq : Nat) (x30_4 : Bool), v30 = .bool x30_4 ∧ Z0 (columbarylaw13_Fits.j0 kq l1 x30_4 l0_0 l0_1 = some r) ∧ Z0 (kq ≤ k) ∧ Z0 (wc.heap[gb188]? = some (.cells #[(.slice A0_0 l0_0.length c0_0), (.slice A0_1 l0_1.length c0_1)] 24 (0, 0))) ∧ Z0 (Below w.heap.size w wc))
 case first =>
  have H := HC5.out
  clear HC5
  by_cases c8 : t189 = true
  ·subst c8
   have H1 : (if t190 = true then (if (l1.length : Int) > 120 then (columbarylaw13_Fits.j0 k l1 true l0_0 l0_1) else ((columbaryref10_Right.f k l0_0 l0_1).bind fun t191 => (columbarylaw13_Fits.j0 k l1 (!t191) l0_0 l0_1))) else (columbarylaw13_Fits.j0 k l1 true l0_0 l0_1)) = some r := by rw [if_pos rfl] at H; exact H
   clear H
   have H := H1
   clear H1
   by_cases c9 : t190 = true
   ·subst c9
    have H1 : (if (l1.length : Int) > 120 then (columbarylaw13_Fits.j0 k l1 true l0_0 l0_1) else ((columbaryref10_Right.f k l0_0 l0_1).bind fun t191 => (columbarylaw13_Fits.j0 k l1 (!t191) l0_0 l0_1))) = some r := by rw [if_pos rfl] at H; exact H
    clear H
    have H := H1
    clear H1
    by_cases c10 : (l1.length : Int) > 120
    ·rw [if_pos c10] at H
     have c10b0 : decide (120 < (l1.length : Int)) = true := decide_eq_true c10
     have c10b1 : decide (120 < l1.length) = true := decide_eq_true (by omega)
     clear c10
     (first | rw [c10b0] | (simp only [i64_w, i32_w]; rw [c10b0]) | skip)
     have H' := Z0.mk H
     clear H
     go_wp2
     go_meet
     case rel => exact ⟨_, (true), (by first | rfl | (simp; done) | (simp [*]; done)), H', ⟨by first | omega | exact Nat.le_refl _⟩, ⟨by (with_reducible repeat (first | refine bDN ?_ _ | refine bDr ?_ | refine bAl ?_ _)); exact BK188.out⟩, ⟨by repeat (first | (with_reducible first | exact HB.out | apply beA | apply bpN | apply bd1 | refine beS ?_ GE188.out) | exact HB.out)⟩⟩
    ·rw [if_neg c10] at H
     have c10b0 : decide (120 < (l1.length : Int)) = false := decide_eq_false c10
     have c10b1 : decide (120 < l1.length) = false := decide_eq_false (by omega)
     clear c10
     (first | rw [c10b0] | (simp only [i64_w, i32_w]; rw [c10b0]) | skip)
     replace H := Option.bind_eq_some_iff.mp H
     obtain ⟨t191, A110, H⟩ := H
     replace H : (columbarylaw13_Fits.j0 k l1 (!t191) l0_0 l0_1) = some r := H
     have A11 := Z0.mk A110
     clear A110
     have H' := Z0.mk H
     clear H
     have hcz12_0 : w6.cell? ⟨gb188, 0, none⟩ = some (.slice A0_0 l0_0.length c0_0) := (bCe BK188.out 0).trans rfl
     have hcz12_1 : w6.cell? ⟨gb188, 1, none⟩ = some (.slice A0_1 l0_1.length c0_1) := (bCe BK188.out 1).trans rfl
     have hfz12_0 := bFz BK188.out 0
     have hfz12_1 := bFz BK188.out 1
     go_wp2_with (first | (go_at_call 34; (with_reducible refine (columbaryref10_Right.calls k _ _ l0_0 _ _ l0_1 t191 _ ?side1 ?side2 ?side3 ?side4 A11.out).mono ?_); (case side1 => repeat (first | exact (Kd.C_below HR0_0.out HB.out) | (with_reducible refine Kd.C_alloc ?_ _) | (with_reducible refine Kd.C_drewN ?_ _) | (with_reducible refine Kd.C_drew ?_))); (case side2 => exact HC0_0.out); (case side3 => repeat (first | exact (Kd.C_below HR0_1.out HB.out) | (with_reducible refine Kd.C_alloc ?_ _) | (with_reducible refine Kd.C_drewN ?_ _) | (with_reducible refine Kd.C_drew ?_))); (case side4 => exact HC0_1.out); rintro e w13 ⟨rfl, hb⟩; have n0_ := Z0.mk (blk_below (g := gb188) (o := .cells #[.slice A0_0 l0_0.length c0_0, .slice A0_1 l0_1.length c0_1] 24 (0, 0)) (by (with_reducible repeat (first | refine bDN ?_ _ | refine bDr ?_ | refine bAl ?_ _)); exact BK188.out) hb); have n1_ := Z0.mk (below_step (by repeat (first | (with_reducible first | exact HB.out | apply beA | apply bpN | apply bd1 | refine beS ?_ GE188.out) | exact HB.out)) hb); clear BK188; clear HB; have BK188 := n0_; have HB := n1_; clear n0_ n1_; (try clear hb); (try clear hb2); (try clear hk); (try clear hi)))
     go_meet
     case rel => exact ⟨_, (!t191), (by first | rfl | (simp; done) | (simp [*]; done)), H', ⟨by first | omega | exact Nat.le_refl _⟩, ⟨by (with_reducible repeat (first | refine bDN ?_ _ | refine bDr ?_ | refine bAl ?_ _)); exact BK188.out⟩, ⟨by repeat (first | (with_reducible first | exact HB.out | apply beA | apply bpN | apply bd1 | refine beS ?_ GE188.out) | exact HB.out)⟩⟩
   ·replace c9 := Bool.eq_false_iff.mpr c9
    subst c9
    have H1 : (columbarylaw13_Fits.j0 k l1 true l0_0 l0_1) = some r := by rw [if_neg (show ¬ (false = true) by decide)] at H; exact H
    clear H
    have H := H1
    clear H1
    have H' := Z0.mk H
    clear H
    go_wp2
    go_meet
    case rel => exact ⟨_, (true), (by first | rfl | (simp; done) | (simp [*]; done)), H', ⟨by first | omega | exact Nat.le_refl _⟩, ⟨by (with_reducible repeat (first | refine bDN ?_ _ | refine bDr ?_ | refine bAl ?_ _)); exact BK188.out⟩, ⟨by repeat (first | (with_reducible first | exact HB.out | apply beA | apply bpN | apply bd1 | refine beS ?_ GE188.out) | exact HB.out)⟩⟩
  ·replace c8 := Bool.eq_false_iff.mpr c8
   subst c8
   have H1 : (columbarylaw13_Fits.j0 k l1 true l0_0 l0_1) = some r := by rw [if_neg (show ¬ (false = true) by decide)] at H; exact H
   clear H
   have H := H1
   clear H1
   have H' := Z0.mk H
   clear H
   go_wp2
   go_meet
   case rel => exact ⟨_, (true), (by first | rfl | (simp; done) | (simp [*]; done)), H', ⟨by first | omega | exact Nat.le_refl _⟩, ⟨by (with_reducible repeat (first | refine bDN ?_ _ | refine bDr ?_ | refine bAl ?_ _)); exact BK188.out⟩, ⟨by repeat (first | (with_reducible first | exact HB.out | apply beA | apply bpN | apply bd1 | refine beS ?_ GE188.out) | exact HB.out)⟩⟩
 case rest =>
  clear HC5
  try clear c1
  try clear p2
  try clear c3
  try clear c8
  try clear c9
  try clear c10
  try clear c10b0
  try clear c10b1
  try clear hcz12_0
  try clear hcz12_1
  try clear hcz7_0
  try clear hcz7_1
  try clear hfz12_0
  try clear hfz12_1
  try clear hfz7_0
  try clear hfz7_1
  obtain ⟨kq, x30_4, rfl, HA, HJ4, BK188, HB⟩ := hcut
  cases kq with
  | zero => exact absurd HA.out (by simp [columbarylaw13_Fits.j0])
  | succ kj4 =>
   have H := HA.out
   clear HA
   simp only [columbarylaw13_Fits.j0] at H
   by_cases c14 : x30_4 = true
   ·subst c14
    have H1 : (some false) = some r := by rw [if_pos rfl] at H; exact H
    clear H
    have H := H1
    clear H1
    obtain rfl := Option.some.inj H
    go_wp2
    go_ret
    exact ⟨by first | rfl | (simp [errW_none, errW_some] <;> rfl) | (simp [*, errW_none, errW_some] <;> rfl), by repeat (first | (with_reducible first | exact HB.out | apply beA | apply bpN | apply bd1 | refine beS ?_ GE188.out) | exact HB.out)⟩
   ·replace c14 := Bool.eq_false_iff.mpr c14
    subst c14
    have H1 : (columbarylaw13_Fits.l0 kj4 l1 0 l0_0 l0_1) = some r := by rw [if_neg (show ¬ (false = true) by decide)] at H; exact H
    clear H
    have H := H1
    clear H1
    have H' := Z0.mk H
    clear H
    go_wp2
    go_loopg [7] kj4 (fun kq v7 w' => ∃ (x7_2 : Int), v7 = .int .i64 x7_2 ∧ Z0 (columbarylaw13_Fits.l0 kq l1 x7_2 l0_0 l0_1 = some r) ∧ Z0 (kq ≤ kj4) ∧ Z0 (w'.heap[gb188]? = some (.cells #[(.slice A0_0 l0_0.length c0_0), (.slice A0_1 l0_1.length c0_1)] 24 (0, 0))) ∧ Z0 (Below w.heap.size w w'))
    case atStart => exact ⟨(0), (by first | rfl | (simp; done) | (simp [*]; done)), H', ⟨Nat.le_refl _⟩, ⟨by (with_reducible repeat (first | refine bDN ?_ _ | refine bDr ?_ | refine bAl ?_ _)); exact BK188.out⟩, ⟨by repeat (first | (with_reducible first | exact HB.out | apply beA | apply bpN | apply bd1 | refine beS ?_ GE188.out) | exact HB.out)⟩⟩
    case round =>
     clear H'
     try clear c1
     try clear p2
     try clear c3
     try clear c8
     try clear c9
     try clear c10
     try clear c10b0
     try clear c10b1
     try clear c14
     try clear hcz12_0
     try clear hcz12_1
     try clear hcz7_0
     try clear hcz7_1
     try clear hfz12_0
     try clear hfz12_1
     try clear hfz7_0
     try clear hfz7_1
     try clear p2
     obtain ⟨x7_2, rfl, HA, HK2, BK188, HB⟩ := hrel
     cases gk with
     | zero => exact absurd HA.out (by simp [columbarylaw13_Fits.l0])
     | succ k2 =>
      have H := HA.out
      clear HA
      simp only [columbarylaw13_Fits.l0] at H
      by_cases c15 : x7_2 < (l1.length : Int)
      ·rw [if_pos c15] at H
       have c15b0 : decide (x7_2 < (l1.length : Int)) = true := decide_eq_true c15
       clear c15
       by_cases c16 : 0 ≤ x7_2
       ·rw [if_pos c16] at H
        have c16b0 : decide (0 ≤ x7_2) = true := decide_eq_true c16
        clear c16
        replace H := Option.bind_eq_some_iff.mp H
        obtain ⟨t193, A170, H⟩ := H
        replace H : (if t193 = true then (columbarylaw13_Fits.l0 k2 l1 (wrap64 (x7_2 + 1)) l0_0 l0_1) else (some false)) = some r := H
        have A17 := Z0.mk A170
        clear A170
        by_cases c18 : t193 = true
        ·subst c18
         have H1 : (columbarylaw13_Fits.l0 k2 l1 (wrap64 (x7_2 + 1)) l0_0 l0_1) = some r := by rw [if_pos rfl] at H; exact H
         clear H
         have H := H1
         clear H1
         have H' := Z0.mk H
         clear H
         try go_wp2
         have n0_ := Z0.mk (bDr BK188.out)
         have n1_ := Z0.mk (bd1 HB.out)
         clear BK188
         clear HB
         have BK188 := n0_
         have HB := n1_
         clear n0_ n1_
         have p192 : 0 ≤ (x7_2 : Int) := of_decide_eq_true (by first | (with_reducible assumption) | assumption)
         have q192 : x7_2 < (l1.length : Int) := of_decide_eq_true (by first | (with_reducible assumption) | assumption)
         obtain ⟨ad192, A192_1, c192_1, A192_3, c192_3, e192, hx192_0, hx192_1, hx192_2, hx192_3, hl192_1, hi192_1, hl192_3, hi192_3⟩ := at_T39 HR1.out x7_2 p192 q192
         have hw192_3 := hx192_3
         have hw192_2 := hx192_2
         have hw192_1 := hx192_1
         have hw192_0 := hx192_0
         cases e192
         replace hx192_0 := (HB.out.cell (World.block_lt_of_cell? w _ hx192_0)).trans hx192_0
         replace hx192_1 := (HB.out.cell (World.block_lt_of_cell? w _ hx192_1)).trans hx192_1
         replace hx192_2 := (HB.out.cell (World.block_lt_of_cell? w _ hx192_2)).trans hx192_2
         replace hx192_3 := (HB.out.cell (World.block_lt_of_cell? w _ hx192_3)).trans hx192_3
         have HR192_1 := Z0.mk hi192_1
         have HC192_1 := Z0.mk hl192_1
         clear hi192_1 hl192_1
         have HR192_3 := Z0.mk hi192_3
         have HC192_3 := Z0.mk hl192_3
         clear hi192_3 hl192_3
         replace p192 := eq_true p192
         replace q192 := eq_true q192
         refine start_ (n := 7) (S := fun w' => w'.cell? ⟨gb188, 0, none⟩ = some (.slice A0_0 l0_0.length c0_0) ∧ w'.cell? ⟨gb188, 1, none⟩ = some (.slice A0_1 l0_1.length c0_1) ∧ w'.cell? (ad192.add ((x7_2).toNat * 4)) = some (.int .i64 ((rd_T39 l1 x7_2).f0)) ∧ w'.cell? ⟨(ad192.add ((x7_2).toNat * 4)).block, (ad192.add ((x7_2).toNat * 4)).off + 1, none⟩ = some (.slice A192_1 ((rd_T39 l1 x7_2).f1).length c192_1) ∧ w'.cell? ⟨(ad192.add ((x7_2).toNat * 4)).block, (ad192.add ((x7_2).toNat * 4)).off + 2, none⟩ = some (.int .i64 ((rd_T39 l1 x7_2).f2)) ∧ w'.cell? ⟨(ad192.add ((x7_2).toNat * 4)).block, (ad192.add ((x7_2).toNat * 4)).off + 3, none⟩ = some (.slice A192_3 ((rd_T39 l1 x7_2).f3).length c192_3)) (ds := []) #[false, false, false, false, false, false, false] (by kernel_rfl) rfl rfl ⟨(bCe BK188.out 0).trans rfl, (bCe BK188.out 1).trans rfl, ((HB.out.cell (World.block_lt_of_cell? w _ hw192_0)).trans hw192_0), ((HB.out.cell (World.block_lt_of_cell? w _ hw192_1)).trans hw192_1), ((HB.out.cell (World.block_lt_of_cell? w _ hw192_2)).trans hw192_2), ((HB.out.cell (World.block_lt_of_cell? w _ hw192_3)).trans hw192_3)⟩ (fun hHeld => ?_)
         generalize wr.drew = w19 at BK188 HB HR192_1 HR192_3 hx192_0 hx192_1 hx192_2 hx192_3 hHeld ⊢
         refine pure_ (i := 1) (N := some 38) (v := ?_) (a' := ?_) #[false, true, false, false, false, false, false] rfl rfl (by kernel_rfl) (fun _ _ _ h => h) (Or.inl ⟨by rfl, ?_⟩) ?_ ?_
         rotate_left
         ·intro w'
          go_simp
          with_reducible rfl
         rotate_left
         ·simp only [Act.put, qA, qB, qC, i64_w, i32_w]
          rfl
         refine pure_ (i := 2) (N := some 39) (v := ?_) (a' := ?_) #[false, true, true, false, false, false, false] rfl rfl (by kernel_rfl) (fun _ _ _ h => h) (Or.inl ⟨by rfl, ?_⟩) ?_ ?_
         rotate_left
         ·intro w'
          go_simp
          with_reducible rfl
         rotate_left
         ·simp only [Act.put, qA, qB, qC, i64_w, i32_w]
          rfl
         refine pure_ (i := 3) (N := some 40) (v := ?_) (a' := ?_) #[false, true, true, true, false, false, false] rfl rfl (by kernel_rfl) (fun _ _ _ h => h) (Or.inl ⟨by rfl, ?_⟩) ?_ ?_
         rotate_left
         ·intro w'
          go_simp
          with_reducible rfl
         rotate_left
         ·simp only [Act.put, qA, qB, qC, i64_w, i32_w]
          rfl
         refine take_ (i := 0) (N := some 37) (v := ?_) (a' := ?_) #[true, true, true, true, false, false, false] rfl rfl (by kernel_rfl) (fun _ _ _ h => h) (Or.inl ⟨by rfl, ?_⟩) hHeld ?_ ?_
         rotate_left
         ·rintro w' ⟨s0, s1, s2, s3, s4, s5⟩
          go_simp
          with_reducible rfl
         rotate_left
         ·simp only [Act.put, qA, qB, qC, i64_w, i32_w]
          rfl
         refine take_ (i := 4) (N := some 41) (v := ?_) (a' := ?_) #[true, true, true, true, true, false, false] rfl rfl (by kernel_rfl) (fun _ _ _ h => h) (Or.inl ⟨by rfl, ?_⟩) hHeld ?_ ?_
         rotate_left
         ·rintro w' ⟨s0, s1, s2, s3, s4, s5⟩
          go_simp
          with_reducible rfl
         rotate_left
         ·simp only [Act.put, qA, qB, qC, i64_w, i32_w]
          rfl
         refine one_ (i := 5) (N := some 42) #[true, true, true, true, true, true, false] rfl rfl (by kernel_rfl) (by decide) (fun K hK => ?_)
         refine goes_ Try.func35 (by kernel_rfl) rfl #[.agg #[.slice A0_0 l0_0.length c0_0, .slice A0_1 l0_1.length c0_1], .agg #[.int .i64 ((rd_T39 l1 x7_2).f0), .slice A192_1 ((rd_T39 l1 x7_2).f1).length c192_1, .int .i64 ((rd_T39 l1 x7_2).f2), .slice A192_3 ((rd_T39 l1 x7_2).f3).length c192_3]] (by rfl) rfl rfl (by (try simp only [List.map_toArray, List.map_cons, List.map_nil]); first | done | rfl | (simp only [List.length_drop, List.length_take]; rfl)) ?_
         with_reducible refine (columbaryref13_Right.calls k2 _ _ l0_0 _ _ l0_1 ((rd_T39 l1 x7_2).f0) _ _ ((rd_T39 l1 x7_2).f1) ((rd_T39 l1 x7_2).f2) _ _ ((rd_T39 l1 x7_2).f3) true _ ?side1 ?side2 ?side3 ?side4 ?side5 ?side6 ?side7 ?side8 A17.out).mono ?_
         (case side1 => repeat (first | exact (Kd.C_below HR0_0.out HB.out) | (with_reducible refine Kd.C_alloc ?_ _) | (with_reducible refine Kd.C_drewN ?_ _) | (with_reducible refine Kd.C_drew ?_)))
         (case side2 => exact HC0_0.out)
         (case side3 => repeat (first | exact (Kd.C_below HR0_1.out HB.out) | (with_reducible refine Kd.C_alloc ?_ _) | (with_reducible refine Kd.C_drewN ?_ _) | (with_reducible refine Kd.C_drew ?_)))
         (case side4 => exact HC0_1.out)
         (case side5 => repeat (first | exact (Kd.C_below HR192_1.out HB.out) | (with_reducible refine Kd.C_alloc ?_ _) | (with_reducible refine Kd.C_drewN ?_ _) | (with_reducible refine Kd.C_drew ?_)))
         (case side6 => exact HC192_1.out)
         (case side7 => repeat (first | exact (Kd.C_below HR192_3.out HB.out) | (with_reducible refine Kd.C_alloc ?_ _) | (with_reducible refine Kd.C_drewN ?_ _) | (with_reducible refine Kd.C_drew ?_)))
         (case side8 => exact HC192_3.out)
         rintro e w20 ⟨rfl, hb⟩
         refine ⟨_, rfl, ?_⟩
         have n0_ := Z0.mk (blk_below (g := gb188) (o := .cells #[.slice A0_0 l0_0.length c0_0, .slice A0_1 l0_1.length c0_1] 24 (0, 0)) (by (with_reducible repeat (first | refine bDN ?_ _ | refine bDr ?_ | refine bAl ?_ _)); exact BK188.out) hb)
         have n1_ := Z0.mk (below_step (by repeat (first | (with_reducible first | exact HB.out | apply beA | apply bpN | apply bd1 | refine beS ?_ GE188.out) | exact HB.out)) hb)
         clear BK188
         clear HB
         have BK188 := n0_
         have HB := n1_
         clear n0_ n1_
         (try clear hb)
         (try clear hb2)
         (try clear hk)
         (try clear hi)
         refine hK.out _ _ ⟨(bCe BK188.out 0).trans rfl, (bCe BK188.out 1).trans rfl, ((HB.out.cell (World.block_lt_of_cell? w _ hw192_0)).trans hw192_0), ((HB.out.cell (World.block_lt_of_cell? w _ hw192_1)).trans hw192_1), ((HB.out.cell (World.block_lt_of_cell? w _ hw192_2)).trans hw192_2), ((HB.out.cell (World.block_lt_of_cell? w _ hw192_3)).trans hw192_3)⟩ (fun hHeld => ?_)
         clear hK K
         refine norm_ (a' := ?_) ?_ ?_
         rotate_left
         ·show Act.put _ (some 42) _ = _
          simp only [Act.put, qA, qB, qC, i64_w, i32_w]
          rfl
         refine pure_ (i := 6) (N := some 8) (v := ?_) (a' := ?_) #[true, true, true, true, true, true, true] rfl rfl (by kernel_rfl) (fun _ _ _ h => h) (Or.inl ⟨by rfl, ?_⟩) ?_ ?_
         rotate_left
         ·intro w'
          go_simp
          with_reducible rfl
         rotate_left
         ·simp only [Act.put, qA, qB, qC, i64_w, i32_w]
          rfl
         refine done_ (by kernel_rfl) ?_
         try go_wp2
         go_roundg k2
         case measure => have := HJ4.out; have := HK2.out; omega
         case rel => exact ⟨(wrap64 (x7_2 + 1)), (by first | rfl | (simp; done) | (simp [*]; done)), H', ⟨by have := HJ4.out; have := HK2.out; omega⟩, ⟨by (with_reducible repeat (first | refine bDN ?_ _ | refine bDr ?_ | refine bAl ?_ _)); exact BK188.out⟩, ⟨by repeat (first | (with_reducible first | exact HB.out | apply beA | apply bpN | apply bd1 | refine beS ?_ GE188.out) | exact HB.out)⟩⟩
        ·replace c18 := Bool.eq_false_iff.mpr c18
         subst c18
         have H1 : (some false) = some r := by rw [if_neg (show ¬ (false = true) by decide)] at H; exact H
         clear H
         have H := H1
         clear H1
         obtain rfl := Option.some.inj H
         try go_wp2
         have n0_ := Z0.mk (bDr BK188.out)
         have n1_ := Z0.mk (bd1 HB.out)
         clear BK188
         clear HB
         have BK188 := n0_
         have HB := n1_
         clear n0_ n1_
         have p192 : 0 ≤ (x7_2 : Int) := of_decide_eq_true (by first | (with_reducible assumption) | assumption)
         have q192 : x7_2 < (l1.length : Int) := of_decide_eq_true (by first | (with_reducible assumption) | assumption)
         obtain ⟨ad192, A192_1, c192_1, A192_3, c192_3, e192, hx192_0, hx192_1, hx192_2, hx192_3, hl192_1, hi192_1, hl192_3, hi192_3⟩ := at_T39 HR1.out x7_2 p192 q192
         have hw192_3 := hx192_3
         have hw192_2 := hx192_2
         have hw192_1 := hx192_1
         have hw192_0 := hx192_0
         cases e192
         replace hx192_0 := (HB.out.cell (World.block_lt_of_cell? w _ hx192_0)).trans hx192_0
         replace hx192_1 := (HB.out.cell (World.block_lt_of_cell? w _ hx192_1)).trans hx192_1
         replace hx192_2 := (HB.out.cell (World.block_lt_of_cell? w _ hx192_2)).trans hx192_2
         replace hx192_3 := (HB.out.cell (World.block_lt_of_cell? w _ hx192_3)).trans hx192_3
         have HR192_1 := Z0.mk hi192_1
         have HC192_1 := Z0.mk hl192_1
         clear hi192_1 hl192_1
         have HR192_3 := Z0.mk hi192_3
         have HC192_3 := Z0.mk hl192_3
         clear hi192_3 hl192_3
         replace p192 := eq_true p192
         replace q192 := eq_true q192
         refine start_ (n := 7) (S := fun w' => w'.cell? ⟨gb188, 0, none⟩ = some (.slice A0_0 l0_0.length c0_0) ∧ w'.cell? ⟨gb188, 1, none⟩ = some (.slice A0_1 l0_1.length c0_1) ∧ w'.cell? (ad192.add ((x7_2).toNat * 4)) = some (.int .i64 ((rd_T39 l1 x7_2).f0)) ∧ w'.cell? ⟨(ad192.add ((x7_2).toNat * 4)).block, (ad192.add ((x7_2).toNat * 4)).off + 1, none⟩ = some (.slice A192_1 ((rd_T39 l1 x7_2).f1).length c192_1) ∧ w'.cell? ⟨(ad192.add ((x7_2).toNat * 4)).block, (ad192.add ((x7_2).toNat * 4)).off + 2, none⟩ = some (.int .i64 ((rd_T39 l1 x7_2).f2)) ∧ w'.cell? ⟨(ad192.add ((x7_2).toNat * 4)).block, (ad192.add ((x7_2).toNat * 4)).off + 3, none⟩ = some (.slice A192_3 ((rd_T39 l1 x7_2).f3).length c192_3)) (ds := []) #[false, false, false, false, false, false, false] (by kernel_rfl) rfl rfl ⟨(bCe BK188.out 0).trans rfl, (bCe BK188.out 1).trans rfl, ((HB.out.cell (World.block_lt_of_cell? w _ hw192_0)).trans hw192_0), ((HB.out.cell (World.block_lt_of_cell? w _ hw192_1)).trans hw192_1), ((HB.out.cell (World.block_lt_of_cell? w _ hw192_2)).trans hw192_2), ((HB.out.cell (World.block_lt_of_cell? w _ hw192_3)).trans hw192_3)⟩ (fun hHeld => ?_)
         generalize wr.drew = w21 at BK188 HB HR192_1 HR192_3 hx192_0 hx192_1 hx192_2 hx192_3 hHeld ⊢
         refine pure_ (i := 1) (N := some 38) (v := ?_) (a' := ?_) #[false, true, false, false, false, false, false] rfl rfl (by kernel_rfl) (fun _ _ _ h => h) (Or.inl ⟨by rfl, ?_⟩) ?_ ?_
         rotate_left
         ·intro w'
          go_simp
          with_reducible rfl
         rotate_left
         ·simp only [Act.put, qA, qB, qC, i64_w, i32_w]
          rfl
         refine pure_ (i := 2) (N := some 39) (v := ?_) (a' := ?_) #[false, true, true, false, false, false, false] rfl rfl (by kernel_rfl) (fun _ _ _ h => h) (Or.inl ⟨by rfl, ?_⟩) ?_ ?_
         rotate_left
         ·intro w'
          go_simp
          with_reducible rfl
         rotate_left
         ·simp only [Act.put, qA, qB, qC, i64_w, i32_w]
          rfl
         refine pure_ (i := 3) (N := some 40) (v := ?_) (a' := ?_) #[false, true, true, true, false, false, false] rfl rfl (by kernel_rfl) (fun _ _ _ h => h) (Or.inl ⟨by rfl, ?_⟩) ?_ ?_
         rotate_left
         ·intro w'
          go_simp
          with_reducible rfl
         rotate_left
         ·simp only [Act.put, qA, qB, qC, i64_w, i32_w]
          rfl
         refine take_ (i := 0) (N := some 37) (v := ?_) (a' := ?_) #[true, true, true, true, false, false, false] rfl rfl (by kernel_rfl) (fun _ _ _ h => h) (Or.inl ⟨by rfl, ?_⟩) hHeld ?_ ?_
         rotate_left
         ·rintro w' ⟨s0, s1, s2, s3, s4, s5⟩
          go_simp
          with_reducible rfl
         rotate_left
         ·simp only [Act.put, qA, qB, qC, i64_w, i32_w]
          rfl
         refine take_ (i := 4) (N := some 41) (v := ?_) (a' := ?_) #[true, true, true, true, true, false, false] rfl rfl (by kernel_rfl) (fun _ _ _ h => h) (Or.inl ⟨by rfl, ?_⟩) hHeld ?_ ?_
         rotate_left
         ·rintro w' ⟨s0, s1, s2, s3, s4, s5⟩
          go_simp
          with_reducible rfl
         rotate_left
         ·simp only [Act.put, qA, qB, qC, i64_w, i32_w]
          rfl
         refine one_ (i := 5) (N := some 42) #[true, true, true, true, true, true, false] rfl rfl (by kernel_rfl) (by decide) (fun K hK => ?_)
         refine goes_ Try.func35 (by kernel_rfl) rfl #[.agg #[.slice A0_0 l0_0.length c0_0, .slice A0_1 l0_1.length c0_1], .agg #[.int .i64 ((rd_T39 l1 x7_2).f0), .slice A192_1 ((rd_T39 l1 x7_2).f1).length c192_1, .int .i64 ((rd_T39 l1 x7_2).f2), .slice A192_3 ((rd_T39 l1 x7_2).f3).length c192_3]] (by rfl) rfl rfl (by (try simp only [List.map_toArray, List.map_cons, List.map_nil]); first | done | rfl | (simp only [List.length_drop, List.length_take]; rfl)) ?_
         with_reducible refine (columbaryref13_Right.calls k2 _ _ l0_0 _ _ l0_1 ((rd_T39 l1 x7_2).f0) _ _ ((rd_T39 l1 x7_2).f1) ((rd_T39 l1 x7_2).f2) _ _ ((rd_T39 l1 x7_2).f3) false _ ?side1 ?side2 ?side3 ?side4 ?side5 ?side6 ?side7 ?side8 A17.out).mono ?_
         (case side1 => repeat (first | exact (Kd.C_below HR0_0.out HB.out) | (with_reducible refine Kd.C_alloc ?_ _) | (with_reducible refine Kd.C_drewN ?_ _) | (with_reducible refine Kd.C_drew ?_)))
         (case side2 => exact HC0_0.out)
         (case side3 => repeat (first | exact (Kd.C_below HR0_1.out HB.out) | (with_reducible refine Kd.C_alloc ?_ _) | (with_reducible refine Kd.C_drewN ?_ _) | (with_reducible refine Kd.C_drew ?_)))
         (case side4 => exact HC0_1.out)
         (case side5 => repeat (first | exact (Kd.C_below HR192_1.out HB.out) | (with_reducible refine Kd.C_alloc ?_ _) | (with_reducible refine Kd.C_drewN ?_ _) | (with_reducible refine Kd.C_drew ?_)))
         (case side6 => exact HC192_1.out)
         (case side7 => repeat (first | exact (Kd.C_below HR192_3.out HB.out) | (with_reducible refine Kd.C_alloc ?_ _) | (with_reducible refine Kd.C_drewN ?_ _) | (with_reducible refine Kd.C_drew ?_)))
         (case side8 => exact HC192_3.out)
         rintro e w22 ⟨rfl, hb⟩
         refine ⟨_, rfl, ?_⟩
         have n0_ := Z0.mk (blk_below (g := gb188) (o := .cells #[.slice A0_0 l0_0.length c0_0, .slice A0_1 l0_1.length c0_1] 24 (0, 0)) (by (with_reducible repeat (first | refine bDN ?_ _ | refine bDr ?_ | refine bAl ?_ _)); exact BK188.out) hb)
         have n1_ := Z0.mk (below_step (by repeat (first | (with_reducible first | exact HB.out | apply beA | apply bpN | apply bd1 | refine beS ?_ GE188.out) | exact HB.out)) hb)
         clear BK188
         clear HB
         have BK188 := n0_
         have HB := n1_
         clear n0_ n1_
         (try clear hb)
         (try clear hb2)
         (try clear hk)
         (try clear hi)
         refine hK.out _ _ ⟨(bCe BK188.out 0).trans rfl, (bCe BK188.out 1).trans rfl, ((HB.out.cell (World.block_lt_of_cell? w _ hw192_0)).trans hw192_0), ((HB.out.cell (World.block_lt_of_cell? w _ hw192_1)).trans hw192_1), ((HB.out.cell (World.block_lt_of_cell? w _ hw192_2)).trans hw192_2), ((HB.out.cell (World.block_lt_of_cell? w _ hw192_3)).trans hw192_3)⟩ (fun hHeld => ?_)
         clear hK K
         refine norm_ (a' := ?_) ?_ ?_
         rotate_left
         ·show Act.put _ (some 42) _ = _
          simp only [Act.put, qA, qB, qC, i64_w, i32_w]
          rfl
         refine pure_ (i := 6) (N := some 8) (v := ?_) (a' := ?_) #[true, true, true, true, true, true, true] rfl rfl (by kernel_rfl) (fun _ _ _ h => h) (Or.inl ⟨by rfl, ?_⟩) ?_ ?_
         rotate_left
         ·intro w'
          go_simp
          with_reducible rfl
         rotate_left
         ·simp only [Act.put, qA, qB, qC, i64_w, i32_w]
          rfl
         refine done_ (by kernel_rfl) ?_
         try go_wp2
         go_ret
         exact ⟨by first | rfl | (simp [errW_none, errW_some] <;> rfl) | (simp [*, errW_none, errW_some] <;> rfl), by repeat (first | (with_reducible first | exact HB.out | apply beA | apply bpN | apply bd1 | refine beS ?_ GE188.out) | exact HB.out)⟩
       ·rw [if_neg c16] at H
        exact absurd H (by simp)
      ·rw [if_neg c15] at H
       have c15b0 : decide (x7_2 < (l1.length : Int)) = false := decide_eq_false c15
       clear c15
       obtain rfl := Option.some.inj H
       go_wp2
       go_ret
       exact ⟨by first | rfl | (simp [errW_none, errW_some] <;> rfl) | (simp [*, errW_none, errW_some] <;> rfl), by repeat (first | (with_reducible first | exact HB.out | apply beA | apply bpN | apply bd1 | refine beS ?_ GE188.out) | exact HB.out)⟩
end Go.Proofs.Ytdeeffahfkndkaa.P
namespace Go.Proofs.Ytdeeffahfkndkaa.P
open Go.RowKit Go.Proofs.YtdeeffahfkndkaaW.PrintWords Go.Proofs.YtdeeffahfkndkaaW.PrintLast Go.Proofs.YtdeeffahfkndkaaW.PrintMore
attribute [local go_sem] max2_int min2_int max_two min_two max_three min_three max_four min_four
set_option linter.unusedVariables false
set_option linter.unusedSimpArgs false
def columbarylaw15_fits.l0 : Nat → List (List (S39)) → Int → Int → List ByteArray → List ByteArray → Option (Bool)
 | 0, _, _, _, _, _ => none
 | k + 1, x1, x5, x6, x195000, x195001 => if x6 < (x1.length : Int) then (if 0 ≤ x6 then ((columbarylaw13_Fits.f k x195000 x195001 (rd_L6 x1 x6)).bind fun t196 => (if t196 = true then (if x6 = 8 then (some false) else (if (wrap64 (x5 + ((rd_L6 x1 x6).length : Int))) > 200 then (some false) else (columbarylaw15_fits.l0 k x1 (wrap64 (x5 + ((rd_L6 x1 x6).length : Int))) (wrap64 (x6 + 1)) x195000 x195001))) else (some false))) else (none)) else ((columbarylaw13_Fits.f k x195000 x195001 ([] : List (S39))).bind fun t198 => (some t198))
def columbarylaw15_fits.f (k : Nat) (l0_0 : List ByteArray) (l0_1 : List ByteArray) (l1 : List (List (S39))) : Option (Bool) := columbarylaw15_fits.l0 k l1 0 0 l0_0 l0_1
set_option maxHeartbeats 8000000 in
set_option maxRecDepth 100000 in
theorem columbarylaw15_fits.calls (k : Nat) (A0_0 : Option Addr) (c0_0 : Nat) (l0_0 : List ByteArray) (A0_1 : Option Addr) (c0_1 : Nat) (l0_1 : List ByteArray) (A1 : Option Addr) (c1 : Nat) (l1 : List (List (S39))) (r : Bool) (w : World) (hr0_0 : Kd.C Kd.string w A0_0 l0_0.length l0_0) (hc0_0 : l0_0.length ≤ c0_0) (hr0_1 : Kd.C Kd.string w A0_1 l0_1.length l0_1) (hc0_1 : l0_1.length ≤ c0_1) (hr1 : Kd.C (Kd.slice 39 k39) w A1 l1.length l1) (hc1 : l1.length ≤ c1) (h : columbarylaw15_fits.f k l0_0 l0_1 l1 = some r) :
  Calls Try.prog 7 #[.agg #[.slice A0_0 l0_0.length c0_0, .slice A0_1 l0_1.length c0_1], .slice A1 l1.length c1] w fun e w' => e = .returned (.bool r) ∧ Below w.heap.size w w' := by
 have hu24 := Try.underlying24
 have HR0_0 := Z0.mk hr0_0
 have HC0_0 := Z0.mk hc0_0
 clear hr0_0 hc0_0
 have HR0_1 := Z0.mk hr0_1
 have HC0_1 := Z0.mk hc0_1
 clear hr0_1 hc0_1
 have HR1 := Z0.mk hr1
 have HC1 := Z0.mk hc1
 clear hr1 hc1
 have HB := Z0.mk (Below.refl w.heap.size w)
 have H : (columbarylaw15_fits.l0 k l1 0 0 l0_0 l0_1) = some r := h
 clear h
 have H' := Z0.mk H
 clear H
 go_enter Try.func7, Try.ntmps7
 go_wp2_with (first | ((with_reducible refine gate_dst (N := 2) rfl ?_); refine box_event ?hg (N := 2) ?hd (cs := #[.slice A0_0 l0_0.length c0_0, .slice A0_1 l0_1.length c0_1]) (t := 24) ?hr ?_; (case hd => rfl); (case hg => rfl); (case hr => first | (go_simp; done) | (go_simp; rfl)); intro gb194 hg w3 hbox hb; have n0_ := Z0.mk (below_step (by repeat (first | (with_reducible first | exact HB.out | apply beA | apply bpN | apply bd1) | exact HB.out)) hb); have n1_ := Z0.mk (hbox); have n2_ := Z0.mk ((by rw [hg]; exact (below_size (by repeat (first | (with_reducible first | exact HB.out | apply beA | apply bpN | apply bd1) | exact HB.out))) : w.heap.size ≤ gb194)); have n3_ := Z0.mk ((by rw [hg]; exact (below_size (by repeat (first | (with_reducible first | exact HB.out | apply beA | apply bpN | apply bd1) | exact HB.out))) : w.heap.size ≤ gb194)); clear HB; have HB := n0_; have BK194 := n1_; have GW194 := n2_; have GE194 := n3_; clear n0_ n1_ n2_ n3_; clear hb hbox hg))
 go_loopg [5, 6] k (fun kq v5 v6 w' => ∃ (x5_1 : Int) (x6_1 : Int), v5 = .int .i64 x5_1 ∧ v6 = .int .i64 x6_1 ∧ Z0 (columbarylaw15_fits.l0 kq l1 x5_1 x6_1 l0_0 l0_1 = some r) ∧ Z0 (kq ≤ k) ∧ Z0 (w'.heap[gb194]? = some (.cells #[(.slice A0_0 l0_0.length c0_0), (.slice A0_1 l0_1.length c0_1)] 24 (0, 0))) ∧ Z0 (Below w.heap.size w w'))
 case atStart => exact ⟨(0), (0), (by first | rfl | (simp; done) | (simp [*]; done)), (by first | rfl | (simp; done) | (simp [*]; done)), H', ⟨Nat.le_refl _⟩, ⟨by (with_reducible repeat (first | refine bDN ?_ _ | refine bDr ?_ | refine bAl ?_ _)); exact BK194.out⟩, ⟨by repeat (first | (with_reducible first | exact HB.out | apply beA | apply bpN | apply bd1 | refine beS ?_ GE194.out) | exact HB.out)⟩⟩
 case round =>
  clear H'
  try clear c1
  try clear p2
  obtain ⟨x5_1, x6_1, rfl, rfl, HA, HK1, BK194, HB⟩ := hrel
  cases gk with
  | zero => exact absurd HA.out (by simp [columbarylaw15_fits.l0])
  | succ k1 =>
   have H := HA.out
   clear HA
   simp only [columbarylaw15_fits.l0] at H
   by_cases c4 : x6_1 < (l1.length : Int)
   ·rw [if_pos c4] at H
    have c4b0 : decide (x6_1 < (l1.length : Int)) = true := decide_eq_true c4
    clear c4
    by_cases c5 : 0 ≤ x6_1
    ·rw [if_pos c5] at H
     have c5b0 : decide (0 ≤ x6_1) = true := decide_eq_true c5
     clear c5
     replace H := Option.bind_eq_some_iff.mp H
     obtain ⟨t196, A60, H⟩ := H
     replace H : (if t196 = true then (if x6_1 = 8 then (some false) else (if (wrap64 (x5_1 + ((rd_L6 l1 x6_1).length : Int))) > 200 then (some false) else (columbarylaw15_fits.l0 k1 l1 (wrap64 (x5_1 + ((rd_L6 l1 x6_1).length : Int))) (wrap64 (x6_1 + 1)) l0_0 l0_1))) else (some false)) = some r := H
     have A6 := Z0.mk A60
     clear A60
     by_cases c7 : t196 = true
     ·subst c7
      have H1 : (if x6_1 = 8 then (some false) else (if (wrap64 (x5_1 + ((rd_L6 l1 x6_1).length : Int))) > 200 then (some false) else (columbarylaw15_fits.l0 k1 l1 (wrap64 (x5_1 + ((rd_L6 l1 x6_1).length : Int))) (wrap64 (x6_1 + 1)) l0_0 l0_1))) = some r := by rw [if_pos rfl] at H; exact H
      clear H
      have H := H1
      clear H1
      by_cases c8 : x6_1 = 8
      ·rw [if_pos c8] at H
       have c8b0 : (x6_1 == 8) = true := beq_iff_eq.mpr c8
       have c8b1 : (x6_1 != 8) = false := bne_eq_false_iff_eq.mpr c8
       clear c8
       obtain rfl := Option.some.inj H
       try go_wp2
       have n0_ := Z0.mk (bDr BK194.out)
       have n1_ := Z0.mk (bd1 HB.out)
       clear BK194
       clear HB
       have BK194 := n0_
       have HB := n1_
       clear n0_ n1_
       have p195 : 0 ≤ (x6_1 : Int) := of_decide_eq_true (by first | (with_reducible assumption) | assumption)
       have q195 : x6_1 < (l1.length : Int) := of_decide_eq_true (by first | (with_reducible assumption) | assumption)
       obtain ⟨ad195, A195_0, c195_0, e195, hx195_0, hl195_0, hi195_0⟩ := at_L6 HR1.out x6_1 p195 q195
       have hw195_0 := hx195_0
       cases e195
       replace hx195_0 := (HB.out.cell (World.block_lt_of_cell? w _ hx195_0)).trans hx195_0
       have HR195_0 := Z0.mk hi195_0
       have HC195_0 := Z0.mk hl195_0
       clear hi195_0 hl195_0
       replace p195 := eq_true p195
       replace q195 := eq_true q195
       refine start_ (n := 7) (S := fun w' => w'.cell? ⟨gb194, 0, none⟩ = some (.slice A0_0 l0_0.length c0_0) ∧ w'.cell? ⟨gb194, 1, none⟩ = some (.slice A0_1 l0_1.length c0_1) ∧ w'.cell? (ad195.add (x6_1).toNat) = some (.slice A195_0 (rd_L6 l1 x6_1).length c195_0)) (ds := []) #[false, false, false, false, false, false, false] (by kernel_rfl) rfl rfl ⟨(bCe BK194.out 0).trans rfl, (bCe BK194.out 1).trans rfl, ((HB.out.cell (World.block_lt_of_cell? w _ hw195_0)).trans hw195_0)⟩ (fun hHeld => ?_)
       generalize wr.drew = w9 at BK194 HB HR195_0 hx195_0 hHeld ⊢
       refine pure_ (i := 1) (N := some 15) (v := ?_) (a' := ?_) #[false, true, false, false, false, false, false] rfl rfl (by kernel_rfl) (fun _ _ _ h => h) (Or.inl ⟨by rfl, ?_⟩) ?_ ?_
       rotate_left
       ·intro w'
        go_simp
        with_reducible rfl
       rotate_left
       ·simp only [Act.put, qA, qB, qC, i64_w, i32_w]
        rfl
       refine pure_ (i := 2) (N := some 16) (v := ?_) (a' := ?_) #[false, true, true, false, false, false, false] rfl rfl (by kernel_rfl) (fun _ _ _ h => h) (Or.inl ⟨by rfl, ?_⟩) ?_ ?_
       rotate_left
       ·intro w'
        go_simp
        with_reducible rfl
       rotate_left
       ·simp only [Act.put, qA, qB, qC, i64_w, i32_w]
        rfl
       refine pure_ (i := 3) (N := some 17) (v := ?_) (a' := ?_) #[false, true, true, true, false, false, false] rfl rfl (by kernel_rfl) (fun _ _ _ h => h) (Or.inl ⟨by rfl, ?_⟩) ?_ ?_
       rotate_left
       ·intro w'
        go_simp
        with_reducible rfl
       rotate_left
       ·simp only [Act.put, qA, qB, qC, i64_w, i32_w]
        rfl
       refine take_ (i := 0) (N := some 14) (v := ?_) (a' := ?_) #[true, true, true, true, false, false, false] rfl rfl (by kernel_rfl) (fun _ _ _ h => h) (Or.inl ⟨by rfl, ?_⟩) hHeld ?_ ?_
       rotate_left
       ·rintro w' ⟨s0, s1, s2⟩
        go_simp
        with_reducible rfl
       rotate_left
       ·simp only [Act.put, qA, qB, qC, i64_w, i32_w]
        rfl
       refine take_ (i := 4) (N := some 18) (v := ?_) (a' := ?_) #[true, true, true, true, true, false, false] rfl rfl (by kernel_rfl) (fun _ _ _ h => h) (Or.inl ⟨by rfl, ?_⟩) hHeld ?_ ?_
       rotate_left
       ·rintro w' ⟨s0, s1, s2⟩
        go_simp
        with_reducible rfl
       rotate_left
       ·simp only [Act.put, qA, qB, qC, i64_w, i32_w]
        rfl
       refine one_ (i := 5) (N := some 19) #[true, true, true, true, true, true, false] rfl rfl (by kernel_rfl) (by decide) (fun K hK => ?_)
       refine goes_ Try.func15 (by kernel_rfl) rfl #[.agg #[.slice A0_0 l0_0.length c0_0, .slice A0_1 l0_1.length c0_1], .slice A195_0 (rd_L6 l1 x6_1).length c195_0] (by rfl) rfl rfl (by (try simp only [List.map_toArray, List.map_cons, List.map_nil]); first | done | rfl | (simp only [List.length_drop, List.length_take]; rfl)) ?_
       with_reducible refine (columbarylaw13_Fits.calls k1 _ _ l0_0 _ _ l0_1 _ _ (rd_L6 l1 x6_1) true _ ?side1 ?side2 ?side3 ?side4 ?side5 ?side6 A6.out).mono ?_
       (case side1 => repeat (first | exact (Kd.C_below HR0_0.out HB.out) | (with_reducible refine Kd.C_alloc ?_ _) | (with_reducible refine Kd.C_drewN ?_ _) | (with_reducible refine Kd.C_drew ?_)))
       (case side2 => exact HC0_0.out)
       (case side3 => repeat (first | exact (Kd.C_below HR0_1.out HB.out) | (with_reducible refine Kd.C_alloc ?_ _) | (with_reducible refine Kd.C_drewN ?_ _) | (with_reducible refine Kd.C_drew ?_)))
       (case side4 => exact HC0_1.out)
       (case side5 => repeat (first | exact (Kd.C_below HR195_0.out HB.out) | (with_reducible refine Kd.C_alloc ?_ _) | (with_reducible refine Kd.C_drewN ?_ _) | (with_reducible refine Kd.C_drew ?_)))
       (case side6 => exact HC195_0.out)
       rintro e w10 ⟨rfl, hb⟩
       refine ⟨_, rfl, ?_⟩
       have n0_ := Z0.mk (blk_below (g := gb194) (o := .cells #[.slice A0_0 l0_0.length c0_0, .slice A0_1 l0_1.length c0_1] 24 (0, 0)) (by (with_reducible repeat (first | refine bDN ?_ _ | refine bDr ?_ | refine bAl ?_ _)); exact BK194.out) hb)
       have n1_ := Z0.mk (below_step (by repeat (first | (with_reducible first | exact HB.out | apply beA | apply bpN | apply bd1 | refine beS ?_ GE194.out) | exact HB.out)) hb)
       clear BK194
       clear HB
       have BK194 := n0_
       have HB := n1_
       clear n0_ n1_
       (try clear hb)
       (try clear hb2)
       (try clear hk)
       (try clear hi)
       refine hK.out _ _ ⟨(bCe BK194.out 0).trans rfl, (bCe BK194.out 1).trans rfl, ((HB.out.cell (World.block_lt_of_cell? w _ hw195_0)).trans hw195_0)⟩ (fun hHeld => ?_)
       clear hK K
       refine norm_ (a' := ?_) ?_ ?_
       rotate_left
       ·show Act.put _ (some 19) _ = _
        simp only [Act.put, qA, qB, qC, i64_w, i32_w]
        rfl
       refine pure_ (i := 6) (N := some 7) (v := ?_) (a' := ?_) #[true, true, true, true, true, true, true] rfl rfl (by kernel_rfl) (fun _ _ _ h => h) (Or.inl ⟨by rfl, ?_⟩) ?_ ?_
       rotate_left
       ·intro w'
        go_simp
        with_reducible rfl
       rotate_left
       ·simp only [Act.put, qA, qB, qC, i64_w, i32_w]
        rfl
       refine done_ (by kernel_rfl) ?_
       have p197 : 0 ≤ (x6_1 : Int) := of_decide_eq_true (by first | (with_reducible assumption) | assumption)
       have q197 : x6_1 < (l1.length : Int) := of_decide_eq_true (by first | (with_reducible assumption) | assumption)
       obtain ⟨ad197, A197_0, c197_0, e197, hx197_0, hl197_0, hi197_0⟩ := at_L6 HR1.out x6_1 p197 q197
       obtain rfl : ad195 = ad197 := (by injection e197)
       replace hx197_0 := (HB.out.cell (World.block_lt_of_cell? w _ hx197_0)).trans hx197_0
       have HR197_0 := Z0.mk hi197_0
       have HC197_0 := Z0.mk hl197_0
       clear hi197_0 hl197_0
       replace p197 := eq_true p197
       replace q197 := eq_true q197
       try go_wp2
       go_ret
       exact ⟨by first | rfl | (simp [errW_none, errW_some] <;> rfl) | (simp [*, errW_none, errW_some] <;> rfl), by repeat (first | (with_reducible first | exact HB.out | apply beA | apply bpN | apply bd1 | refine beS ?_ GE194.out) | exact HB.out)⟩
      ·rw [if_neg c8] at H
       have c8b0 : (x6_1 == 8) = false := beq_eq_false_iff_ne.mpr c8
       have c8b1 : (x6_1 != 8) = true := bne_iff_ne.mpr c8
       by_cases c11 : (wrap64 (x5_1 + ((rd_L6 l1 x6_1).length : Int))) > 200
       ·rw [if_pos c11] at H
        have c11b0 : decide (200 < (wrap64 (x5_1 + ((rd_L6 l1 x6_1).length : Int)))) = true := decide_eq_true c11
        clear c11
        obtain rfl := Option.some.inj H
        try go_wp2
        have n0_ := Z0.mk (bDr BK194.out)
        have n1_ := Z0.mk (bd1 HB.out)
        clear BK194
        clear HB
        have BK194 := n0_
        have HB := n1_
        clear n0_ n1_
        have p195 : 0 ≤ (x6_1 : Int) := of_decide_eq_true (by first | (with_reducible assumption) | assumption)
        have q195 : x6_1 < (l1.length : Int) := of_decide_eq_true (by first | (with_reducible assumption) | assumption)
        obtain ⟨ad195, A195_0, c195_0, e195, hx195_0, hl195_0, hi195_0⟩ := at_L6 HR1.out x6_1 p195 q195
        have hw195_0 := hx195_0
        cases e195
        replace hx195_0 := (HB.out.cell (World.block_lt_of_cell? w _ hx195_0)).trans hx195_0
        have HR195_0 := Z0.mk hi195_0
        have HC195_0 := Z0.mk hl195_0
        clear hi195_0 hl195_0
        replace p195 := eq_true p195
        replace q195 := eq_true q195
        refine start_ (n := 7) (S := fun w' => w'.cell? ⟨gb194, 0, none⟩ = some (.slice A0_0 l0_0.length c0_0) ∧ w'.cell? ⟨gb194, 1, none⟩ = some (.slice A0_1 l0_1.length c0_1) ∧ w'.cell? (ad195.add (x6_1).toNat) = some (.slice A195_0 (rd_L6 l1 x6_1).length c195_0)) (ds := []) #[false, false, false, false, false, false, false] (by kernel_rfl) rfl rfl ⟨(bCe BK194.out 0).trans rfl, (bCe BK194.out 1).trans rfl, ((HB.out.cell (World.block_lt_of_cell? w _ hw195_0)).trans hw195_0)⟩ (fun hHeld => ?_)
        generalize wr.drew = w12 at BK194 HB HR195_0 hx195_0 hHeld ⊢
        refine pure_ (i := 1) (N := some 15) (v := ?_) (a' := ?_) #[false, true, false, false, false, false, false] rfl rfl (by kernel_rfl) (fun _ _ _ h => h) (Or.inl ⟨by rfl, ?_⟩) ?_ ?_
        rotate_left
        ·intro w'
         go_simp
         with_reducible rfl
        rotate_left
        ·simp only [Act.put, qA, qB, qC, i64_w, i32_w]
         rfl
        refine pure_ (i := 2) (N := some 16) (v := ?_) (a' := ?_) #[false, true, true, false, false, false, false] rfl rfl (by kernel_rfl) (fun _ _ _ h => h) (Or.inl ⟨by rfl, ?_⟩) ?_ ?_
        rotate_left
        ·intro w'
         go_simp
         with_reducible rfl
        rotate_left
        ·simp only [Act.put, qA, qB, qC, i64_w, i32_w]
         rfl
        refine pure_ (i := 3) (N := some 17) (v := ?_) (a' := ?_) #[false, true, true, true, false, false, false] rfl rfl (by kernel_rfl) (fun _ _ _ h => h) (Or.inl ⟨by rfl, ?_⟩) ?_ ?_
        rotate_left
        ·intro w'
         go_simp
         with_reducible rfl
        rotate_left
        ·simp only [Act.put, qA, qB, qC, i64_w, i32_w]
         rfl
        refine take_ (i := 0) (N := some 14) (v := ?_) (a' := ?_) #[true, true, true, true, false, false, false] rfl rfl (by kernel_rfl) (fun _ _ _ h => h) (Or.inl ⟨by rfl, ?_⟩) hHeld ?_ ?_
        rotate_left
        ·rintro w' ⟨s0, s1, s2⟩
         go_simp
         with_reducible rfl
        rotate_left
        ·simp only [Act.put, qA, qB, qC, i64_w, i32_w]
         rfl
        refine take_ (i := 4) (N := some 18) (v := ?_) (a' := ?_) #[true, true, true, true, true, false, false] rfl rfl (by kernel_rfl) (fun _ _ _ h => h) (Or.inl ⟨by rfl, ?_⟩) hHeld ?_ ?_
        rotate_left
        ·rintro w' ⟨s0, s1, s2⟩
         go_simp
         with_reducible rfl
        rotate_left
        ·simp only [Act.put, qA, qB, qC, i64_w, i32_w]
         rfl
        refine one_ (i := 5) (N := some 19) #[true, true, true, true, true, true, false] rfl rfl (by kernel_rfl) (by decide) (fun K hK => ?_)
        refine goes_ Try.func15 (by kernel_rfl) rfl #[.agg #[.slice A0_0 l0_0.length c0_0, .slice A0_1 l0_1.length c0_1], .slice A195_0 (rd_L6 l1 x6_1).length c195_0] (by rfl) rfl rfl (by (try simp only [List.map_toArray, List.map_cons, List.map_nil]); first | done | rfl | (simp only [List.length_drop, List.length_take]; rfl)) ?_
        with_reducible refine (columbarylaw13_Fits.calls k1 _ _ l0_0 _ _ l0_1 _ _ (rd_L6 l1 x6_1) true _ ?side1 ?side2 ?side3 ?side4 ?side5 ?side6 A6.out).mono ?_
        (case side1 => repeat (first | exact (Kd.C_below HR0_0.out HB.out) | (with_reducible refine Kd.C_alloc ?_ _) | (with_reducible refine Kd.C_drewN ?_ _) | (with_reducible refine Kd.C_drew ?_)))
        (case side2 => exact HC0_0.out)
        (case side3 => repeat (first | exact (Kd.C_below HR0_1.out HB.out) | (with_reducible refine Kd.C_alloc ?_ _) | (with_reducible refine Kd.C_drewN ?_ _) | (with_reducible refine Kd.C_drew ?_)))
        (case side4 => exact HC0_1.out)
        (case side5 => repeat (first | exact (Kd.C_below HR195_0.out HB.out) | (with_reducible refine Kd.C_alloc ?_ _) | (with_reducible refine Kd.C_drewN ?_ _) | (with_reducible refine Kd.C_drew ?_)))
        (case side6 => exact HC195_0.out)
        rintro e w13 ⟨rfl, hb⟩
        refine ⟨_, rfl, ?_⟩
        have n0_ := Z0.mk (blk_below (g := gb194) (o := .cells #[.slice A0_0 l0_0.length c0_0, .slice A0_1 l0_1.length c0_1] 24 (0, 0)) (by (with_reducible repeat (first | refine bDN ?_ _ | refine bDr ?_ | refine bAl ?_ _)); exact BK194.out) hb)
        have n1_ := Z0.mk (below_step (by repeat (first | (with_reducible first | exact HB.out | apply beA | apply bpN | apply bd1 | refine beS ?_ GE194.out) | exact HB.out)) hb)
        clear BK194
        clear HB
        have BK194 := n0_
        have HB := n1_
        clear n0_ n1_
        (try clear hb)
        (try clear hb2)
        (try clear hk)
        (try clear hi)
        refine hK.out _ _ ⟨(bCe BK194.out 0).trans rfl, (bCe BK194.out 1).trans rfl, ((HB.out.cell (World.block_lt_of_cell? w _ hw195_0)).trans hw195_0)⟩ (fun hHeld => ?_)
        clear hK K
        refine norm_ (a' := ?_) ?_ ?_
        rotate_left
        ·show Act.put _ (some 19) _ = _
         simp only [Act.put, qA, qB, qC, i64_w, i32_w]
         rfl
        refine pure_ (i := 6) (N := some 7) (v := ?_) (a' := ?_) #[true, true, true, true, true, true, true] rfl rfl (by kernel_rfl) (fun _ _ _ h => h) (Or.inl ⟨by rfl, ?_⟩) ?_ ?_
        rotate_left
        ·intro w'
         go_simp
         with_reducible rfl
        rotate_left
        ·simp only [Act.put, qA, qB, qC, i64_w, i32_w]
         rfl
        refine done_ (by kernel_rfl) ?_
        have p197 : 0 ≤ (x6_1 : Int) := of_decide_eq_true (by first | (with_reducible assumption) | assumption)
        have q197 : x6_1 < (l1.length : Int) := of_decide_eq_true (by first | (with_reducible assumption) | assumption)
        obtain ⟨ad197, A197_0, c197_0, e197, hx197_0, hl197_0, hi197_0⟩ := at_L6 HR1.out x6_1 p197 q197
        obtain rfl : ad195 = ad197 := (by injection e197)
        replace hx197_0 := (HB.out.cell (World.block_lt_of_cell? w _ hx197_0)).trans hx197_0
        have HR197_0 := Z0.mk hi197_0
        have HC197_0 := Z0.mk hl197_0
        clear hi197_0 hl197_0
        replace p197 := eq_true p197
        replace q197 := eq_true q197
        try go_wp2
        go_ret
        exact ⟨by first | rfl | (simp [errW_none, errW_some] <;> rfl) | (simp [*, errW_none, errW_some] <;> rfl), by repeat (first | (with_reducible first | exact HB.out | apply beA | apply bpN | apply bd1 | refine beS ?_ GE194.out) | exact HB.out)⟩
       ·rw [if_neg c11] at H
        have c11b0 : decide (200 < (wrap64 (x5_1 + ((rd_L6 l1 x6_1).length : Int)))) = false := decide_eq_false c11
        clear c11
        have H' := Z0.mk H
        clear H
        try go_wp2
        have n0_ := Z0.mk (bDr BK194.out)
        have n1_ := Z0.mk (bd1 HB.out)
        clear BK194
        clear HB
        have BK194 := n0_
        have HB := n1_
        clear n0_ n1_
        have p195 : 0 ≤ (x6_1 : Int) := of_decide_eq_true (by first | (with_reducible assumption) | assumption)
        have q195 : x6_1 < (l1.length : Int) := of_decide_eq_true (by first | (with_reducible assumption) | assumption)
        obtain ⟨ad195, A195_0, c195_0, e195, hx195_0, hl195_0, hi195_0⟩ := at_L6 HR1.out x6_1 p195 q195
        have hw195_0 := hx195_0
        cases e195
        replace hx195_0 := (HB.out.cell (World.block_lt_of_cell? w _ hx195_0)).trans hx195_0
        have HR195_0 := Z0.mk hi195_0
        have HC195_0 := Z0.mk hl195_0
        clear hi195_0 hl195_0
        replace p195 := eq_true p195
        replace q195 := eq_true q195
        refine start_ (n := 7) (S := fun w' => w'.cell? ⟨gb194, 0, none⟩ = some (.slice A0_0 l0_0.length c0_0) ∧ w'.cell? ⟨gb194, 1, none⟩ = some (.slice A0_1 l0_1.length c0_1) ∧ w'.cell? (ad195.add (x6_1).toNat) = some (.slice A195_0 (rd_L6 l1 x6_1).length c195_0)) (ds := []) #[false, false, false, false, false, false, false] (by kernel_rfl) rfl rfl ⟨(bCe BK194.out 0).trans rfl, (bCe BK194.out 1).trans rfl, ((HB.out.cell (World.block_lt_of_cell? w _ hw195_0)).trans hw195_0)⟩ (fun hHeld => ?_)
        generalize wr.drew = w14 at BK194 HB HR195_0 hx195_0 hHeld ⊢
        refine pure_ (i := 1) (N := some 15) (v := ?_) (a' := ?_) #[false, true, false, false, false, false, false] rfl rfl (by kernel_rfl) (fun _ _ _ h => h) (Or.inl ⟨by rfl, ?_⟩) ?_ ?_
        rotate_left
        ·intro w'
         go_simp
         with_reducible rfl
        rotate_left
        ·simp only [Act.put, qA, qB, qC, i64_w, i32_w]
         rfl
        refine pure_ (i := 2) (N := some 16) (v := ?_) (a' := ?_) #[false, true, true, false, false, false, false] rfl rfl (by kernel_rfl) (fun _ _ _ h => h) (Or.inl ⟨by rfl, ?_⟩) ?_ ?_
        rotate_left
        ·intro w'
         go_simp
         with_reducible rfl
        rotate_left
        ·simp only [Act.put, qA, qB, qC, i64_w, i32_w]
         rfl
        refine pure_ (i := 3) (N := some 17) (v := ?_) (a' := ?_) #[false, true, true, true, false, false, false] rfl rfl (by kernel_rfl) (fun _ _ _ h => h) (Or.inl ⟨by rfl, ?_⟩) ?_ ?_
        rotate_left
        ·intro w'
         go_simp
         with_reducible rfl
        rotate_left
        ·simp only [Act.put, qA, qB, qC, i64_w, i32_w]
         rfl
        refine take_ (i := 0) (N := some 14) (v := ?_) (a' := ?_) #[true, true, true, true, false, false, false] rfl rfl (by kernel_rfl) (fun _ _ _ h => h) (Or.inl ⟨by rfl, ?_⟩) hHeld ?_ ?_
        rotate_left
        ·rintro w' ⟨s0, s1, s2⟩
         go_simp
         with_reducible rfl
        rotate_left
        ·simp only [Act.put, qA, qB, qC, i64_w, i32_w]
         rfl
        refine take_ (i := 4) (N := some 18) (v := ?_) (a' := ?_) #[true, true, true, true, true, false, false] rfl rfl (by kernel_rfl) (fun _ _ _ h => h) (Or.inl ⟨by rfl, ?_⟩) hHeld ?_ ?_
        rotate_left
        ·rintro w' ⟨s0, s1, s2⟩
         go_simp
         with_reducible rfl
        rotate_left
        ·simp only [Act.put, qA, qB, qC, i64_w, i32_w]
         rfl
        refine one_ (i := 5) (N := some 19) #[true, true, true, true, true, true, false] rfl rfl (by kernel_rfl) (by decide) (fun K hK => ?_)
        refine goes_ Try.func15 (by kernel_rfl) rfl #[.agg #[.slice A0_0 l0_0.length c0_0, .slice A0_1 l0_1.length c0_1], .slice A195_0 (rd_L6 l1 x6_1).length c195_0] (by rfl) rfl rfl (by (try simp only [List.map_toArray, List.map_cons, List.map_nil]); first | done | rfl | (simp only [List.length_drop, List.length_take]; rfl)) ?_
        with_reducible refine (columbarylaw13_Fits.calls k1 _ _ l0_0 _ _ l0_1 _ _ (rd_L6 l1 x6_1) true _ ?side1 ?side2 ?side3 ?side4 ?side5 ?side6 A6.out).mono ?_
        (case side1 => repeat (first | exact (Kd.C_below HR0_0.out HB.out) | (with_reducible refine Kd.C_alloc ?_ _) | (with_reducible refine Kd.C_drewN ?_ _) | (with_reducible refine Kd.C_drew ?_)))
        (case side2 => exact HC0_0.out)
        (case side3 => repeat (first | exact (Kd.C_below HR0_1.out HB.out) | (with_reducible refine Kd.C_alloc ?_ _) | (with_reducible refine Kd.C_drewN ?_ _) | (with_reducible refine Kd.C_drew ?_)))
        (case side4 => exact HC0_1.out)
        (case side5 => repeat (first | exact (Kd.C_below HR195_0.out HB.out) | (with_reducible refine Kd.C_alloc ?_ _) | (with_reducible refine Kd.C_drewN ?_ _) | (with_reducible refine Kd.C_drew ?_)))
        (case side6 => exact HC195_0.out)
        rintro e w15 ⟨rfl, hb⟩
        refine ⟨_, rfl, ?_⟩
        have n0_ := Z0.mk (blk_below (g := gb194) (o := .cells #[.slice A0_0 l0_0.length c0_0, .slice A0_1 l0_1.length c0_1] 24 (0, 0)) (by (with_reducible repeat (first | refine bDN ?_ _ | refine bDr ?_ | refine bAl ?_ _)); exact BK194.out) hb)
        have n1_ := Z0.mk (below_step (by repeat (first | (with_reducible first | exact HB.out | apply beA | apply bpN | apply bd1 | refine beS ?_ GE194.out) | exact HB.out)) hb)
        clear BK194
        clear HB
        have BK194 := n0_
        have HB := n1_
        clear n0_ n1_
        (try clear hb)
        (try clear hb2)
        (try clear hk)
        (try clear hi)
        refine hK.out _ _ ⟨(bCe BK194.out 0).trans rfl, (bCe BK194.out 1).trans rfl, ((HB.out.cell (World.block_lt_of_cell? w _ hw195_0)).trans hw195_0)⟩ (fun hHeld => ?_)
        clear hK K
        refine norm_ (a' := ?_) ?_ ?_
        rotate_left
        ·show Act.put _ (some 19) _ = _
         simp only [Act.put, qA, qB, qC, i64_w, i32_w]
         rfl
        refine pure_ (i := 6) (N := some 7) (v := ?_) (a' := ?_) #[true, true, true, true, true, true, true] rfl rfl (by kernel_rfl) (fun _ _ _ h => h) (Or.inl ⟨by rfl, ?_⟩) ?_ ?_
        rotate_left
        ·intro w'
         go_simp
         with_reducible rfl
        rotate_left
        ·simp only [Act.put, qA, qB, qC, i64_w, i32_w]
         rfl
        refine done_ (by kernel_rfl) ?_
        have p197 : 0 ≤ (x6_1 : Int) := of_decide_eq_true (by first | (with_reducible assumption) | assumption)
        have q197 : x6_1 < (l1.length : Int) := of_decide_eq_true (by first | (with_reducible assumption) | assumption)
        obtain ⟨ad197, A197_0, c197_0, e197, hx197_0, hl197_0, hi197_0⟩ := at_L6 HR1.out x6_1 p197 q197
        obtain rfl : ad195 = ad197 := (by injection e197)
        replace hx197_0 := (HB.out.cell (World.block_lt_of_cell? w _ hx197_0)).trans hx197_0
        have HR197_0 := Z0.mk hi197_0
        have HC197_0 := Z0.mk hl197_0
        clear hi197_0 hl197_0
        replace p197 := eq_true p197
        replace q197 := eq_true q197
        try go_wp2
        go_roundg k1
        case measure => have := HK1.out; omega
        case rel => exact ⟨(wrap64 (x5_1 + ((rd_L6 l1 x6_1).length : Int))), (wrap64 (x6_1 + 1)), (by first | rfl | (simp; done) | (simp [*]; done)), (by first | rfl | (simp; done) | (simp [*]; done)), H', ⟨by have := HK1.out; omega⟩, ⟨by (with_reducible repeat (first | refine bDN ?_ _ | refine bDr ?_ | refine bAl ?_ _)); exact BK194.out⟩, ⟨by repeat (first | (with_reducible first | exact HB.out | apply beA | apply bpN | apply bd1 | refine beS ?_ GE194.out) | exact HB.out)⟩⟩
     ·replace c7 := Bool.eq_false_iff.mpr c7
      subst c7
      have H1 : (some false) = some r := by rw [if_neg (show ¬ (false = true) by decide)] at H; exact H
      clear H
      have H := H1
      clear H1
      obtain rfl := Option.some.inj H
      try go_wp2
      have n0_ := Z0.mk (bDr BK194.out)
      have n1_ := Z0.mk (bd1 HB.out)
      clear BK194
      clear HB
      have BK194 := n0_
      have HB := n1_
      clear n0_ n1_
      have p195 : 0 ≤ (x6_1 : Int) := of_decide_eq_true (by first | (with_reducible assumption) | assumption)
      have q195 : x6_1 < (l1.length : Int) := of_decide_eq_true (by first | (with_reducible assumption) | assumption)
      obtain ⟨ad195, A195_0, c195_0, e195, hx195_0, hl195_0, hi195_0⟩ := at_L6 HR1.out x6_1 p195 q195
      have hw195_0 := hx195_0
      cases e195
      replace hx195_0 := (HB.out.cell (World.block_lt_of_cell? w _ hx195_0)).trans hx195_0
      have HR195_0 := Z0.mk hi195_0
      have HC195_0 := Z0.mk hl195_0
      clear hi195_0 hl195_0
      replace p195 := eq_true p195
      replace q195 := eq_true q195
      refine start_ (n := 7) (S := fun w' => w'.cell? ⟨gb194, 0, none⟩ = some (.slice A0_0 l0_0.length c0_0) ∧ w'.cell? ⟨gb194, 1, none⟩ = some (.slice A0_1 l0_1.length c0_1) ∧ w'.cell? (ad195.add (x6_1).toNat) = some (.slice A195_0 (rd_L6 l1 x6_1).length c195_0)) (ds := []) #[false, false, false, false, false, false, false] (by kernel_rfl) rfl rfl ⟨(bCe BK194.out 0).trans rfl, (bCe BK194.out 1).trans rfl, ((HB.out.cell (World.block_lt_of_cell? w _ hw195_0)).trans hw195_0)⟩ (fun hHeld => ?_)
      generalize wr.drew = w16 at BK194 HB HR195_0 hx195_0 hHeld ⊢
      refine pure_ (i := 1) (N := some 15) (v := ?_) (a' := ?_) #[false, true, false, false, false, false, false] rfl rfl (by kernel_rfl) (fun _ _ _ h => h) (Or.inl ⟨by rfl, ?_⟩) ?_ ?_
      rotate_left
      ·intro w'
       go_simp
       with_reducible rfl
      rotate_left
      ·simp only [Act.put, qA, qB, qC, i64_w, i32_w]
       rfl
      refine pure_ (i := 2) (N := some 16) (v := ?_) (a' := ?_) #[false, true, true, false, false, false, false] rfl rfl (by kernel_rfl) (fun _ _ _ h => h) (Or.inl ⟨by rfl, ?_⟩) ?_ ?_
      rotate_left
      ·intro w'
       go_simp
       with_reducible rfl
      rotate_left
      ·simp only [Act.put, qA, qB, qC, i64_w, i32_w]
       rfl
      refine pure_ (i := 3) (N := some 17) (v := ?_) (a' := ?_) #[false, true, true, true, false, false, false] rfl rfl (by kernel_rfl) (fun _ _ _ h => h) (Or.inl ⟨by rfl, ?_⟩) ?_ ?_
      rotate_left
      ·intro w'
       go_simp
       with_reducible rfl
      rotate_left
      ·simp only [Act.put, qA, qB, qC, i64_w, i32_w]
       rfl
      refine take_ (i := 0) (N := some 14) (v := ?_) (a' := ?_) #[true, true, true, true, false, false, false] rfl rfl (by kernel_rfl) (fun _ _ _ h => h) (Or.inl ⟨by rfl, ?_⟩) hHeld ?_ ?_
      rotate_left
      ·rintro w' ⟨s0, s1, s2⟩
       go_simp
       with_reducible rfl
      rotate_left
      ·simp only [Act.put, qA, qB, qC, i64_w, i32_w]
       rfl
      refine take_ (i := 4) (N := some 18) (v := ?_) (a' := ?_) #[true, true, true, true, true, false, false] rfl rfl (by kernel_rfl) (fun _ _ _ h => h) (Or.inl ⟨by rfl, ?_⟩) hHeld ?_ ?_
      rotate_left
      ·rintro w' ⟨s0, s1, s2⟩
       go_simp
       with_reducible rfl
      rotate_left
      ·simp only [Act.put, qA, qB, qC, i64_w, i32_w]
       rfl
      refine one_ (i := 5) (N := some 19) #[true, true, true, true, true, true, false] rfl rfl (by kernel_rfl) (by decide) (fun K hK => ?_)
      refine goes_ Try.func15 (by kernel_rfl) rfl #[.agg #[.slice A0_0 l0_0.length c0_0, .slice A0_1 l0_1.length c0_1], .slice A195_0 (rd_L6 l1 x6_1).length c195_0] (by rfl) rfl rfl (by (try simp only [List.map_toArray, List.map_cons, List.map_nil]); first | done | rfl | (simp only [List.length_drop, List.length_take]; rfl)) ?_
      with_reducible refine (columbarylaw13_Fits.calls k1 _ _ l0_0 _ _ l0_1 _ _ (rd_L6 l1 x6_1) false _ ?side1 ?side2 ?side3 ?side4 ?side5 ?side6 A6.out).mono ?_
      (case side1 => repeat (first | exact (Kd.C_below HR0_0.out HB.out) | (with_reducible refine Kd.C_alloc ?_ _) | (with_reducible refine Kd.C_drewN ?_ _) | (with_reducible refine Kd.C_drew ?_)))
      (case side2 => exact HC0_0.out)
      (case side3 => repeat (first | exact (Kd.C_below HR0_1.out HB.out) | (with_reducible refine Kd.C_alloc ?_ _) | (with_reducible refine Kd.C_drewN ?_ _) | (with_reducible refine Kd.C_drew ?_)))
      (case side4 => exact HC0_1.out)
      (case side5 => repeat (first | exact (Kd.C_below HR195_0.out HB.out) | (with_reducible refine Kd.C_alloc ?_ _) | (with_reducible refine Kd.C_drewN ?_ _) | (with_reducible refine Kd.C_drew ?_)))
      (case side6 => exact HC195_0.out)
      rintro e w17 ⟨rfl, hb⟩
      refine ⟨_, rfl, ?_⟩
      have n0_ := Z0.mk (blk_below (g := gb194) (o := .cells #[.slice A0_0 l0_0.length c0_0, .slice A0_1 l0_1.length c0_1] 24 (0, 0)) (by (with_reducible repeat (first | refine bDN ?_ _ | refine bDr ?_ | refine bAl ?_ _)); exact BK194.out) hb)
      have n1_ := Z0.mk (below_step (by repeat (first | (with_reducible first | exact HB.out | apply beA | apply bpN | apply bd1 | refine beS ?_ GE194.out) | exact HB.out)) hb)
      clear BK194
      clear HB
      have BK194 := n0_
      have HB := n1_
      clear n0_ n1_
      (try clear hb)
      (try clear hb2)
      (try clear hk)
      (try clear hi)
      refine hK.out _ _ ⟨(bCe BK194.out 0).trans rfl, (bCe BK194.out 1).trans rfl, ((HB.out.cell (World.block_lt_of_cell? w _ hw195_0)).trans hw195_0)⟩ (fun hHeld => ?_)
      clear hK K
      refine norm_ (a' := ?_) ?_ ?_
      rotate_left
      ·show Act.put _ (some 19) _ = _
       simp only [Act.put, qA, qB, qC, i64_w, i32_w]
       rfl
      refine pure_ (i := 6) (N := some 7) (v := ?_) (a' := ?_) #[true, true, true, true, true, true, true] rfl rfl (by kernel_rfl) (fun _ _ _ h => h) (Or.inl ⟨by rfl, ?_⟩) ?_ ?_
      rotate_left
      ·intro w'
       go_simp
       with_reducible rfl
      rotate_left
      ·simp only [Act.put, qA, qB, qC, i64_w, i32_w]
       rfl
      refine done_ (by kernel_rfl) ?_
      have p197 : 0 ≤ (x6_1 : Int) := of_decide_eq_true (by first | (with_reducible assumption) | assumption)
      have q197 : x6_1 < (l1.length : Int) := of_decide_eq_true (by first | (with_reducible assumption) | assumption)
      obtain ⟨ad197, A197_0, c197_0, e197, hx197_0, hl197_0, hi197_0⟩ := at_L6 HR1.out x6_1 p197 q197
      obtain rfl : ad195 = ad197 := (by injection e197)
      replace hx197_0 := (HB.out.cell (World.block_lt_of_cell? w _ hx197_0)).trans hx197_0
      have HR197_0 := Z0.mk hi197_0
      have HC197_0 := Z0.mk hl197_0
      clear hi197_0 hl197_0
      replace p197 := eq_true p197
      replace q197 := eq_true q197
      try go_wp2
      go_ret
      exact ⟨by first | rfl | (simp [errW_none, errW_some] <;> rfl) | (simp [*, errW_none, errW_some] <;> rfl), by repeat (first | (with_reducible first | exact HB.out | apply beA | apply bpN | apply bd1 | refine beS ?_ GE194.out) | exact HB.out)⟩
    ·rw [if_neg c5] at H
     exact absurd H (by simp)
   ·rw [if_neg c4] at H
    have c4b0 : decide (x6_1 < (l1.length : Int)) = false := decide_eq_false c4
    clear c4
    replace H := Option.bind_eq_some_iff.mp H
    obtain ⟨t198, A180, H⟩ := H
    replace H : (some t198) = some r := H
    have A18 := Z0.mk A180
    clear A180
    obtain rfl := Option.some.inj H
    have hcz19_0 : wr.cell? ⟨gb194, 0, none⟩ = some (.slice A0_0 l0_0.length c0_0) := (bCe BK194.out 0).trans rfl
    have hcz19_1 : wr.cell? ⟨gb194, 1, none⟩ = some (.slice A0_1 l0_1.length c0_1) := (bCe BK194.out 1).trans rfl
    have hfz19_0 := bFz BK194.out 0
    have hfz19_1 := bFz BK194.out 1
    go_wp2_with (first | ((with_reducible refine gate_callee (f := 15) rfl ?_); refine goesL_ (some 38) rfl rfl Try.func15 (by kernel_rfl) rfl #[.agg #[.slice A0_0 l0_0.length c0_0, .slice A0_1 l0_1.length c0_1], .slice none 0 0] rfl (by (try simp only [List.map_toArray, List.map_cons, List.map_nil]); first | done | rfl | (simp only [List.length_drop, List.length_take]; rfl)) ?_; (refine (columbarylaw13_Fits.calls k1 _ _ l0_0 _ _ l0_1 _ _ ([] : List (S39)) t198 _ ?side1 ?side2 ?side3 ?side4 ?side5 ?side6 A18.out).mono ?_); (case side1 => repeat (first | exact (Kd.C_below HR0_0.out HB.out) | (with_reducible refine Kd.C_alloc ?_ _) | (with_reducible refine Kd.C_drewN ?_ _) | (with_reducible refine Kd.C_drew ?_))); (case side2 => exact HC0_0.out); (case side3 => repeat (first | exact (Kd.C_below HR0_1.out HB.out) | (with_reducible refine Kd.C_alloc ?_ _) | (with_reducible refine Kd.C_drewN ?_ _) | (with_reducible refine Kd.C_drew ?_))); (case side4 => exact HC0_1.out); (case side5 => exact Kd.C_nil _ _); (case side6 => exact Nat.le_refl _); rintro e w20 ⟨rfl, hb⟩; refine ⟨_, rfl, ?_⟩; have n0_ := Z0.mk (blk_below (g := gb194) (o := .cells #[.slice A0_0 l0_0.length c0_0, .slice A0_1 l0_1.length c0_1] 24 (0, 0)) (by (with_reducible repeat (first | refine bDN ?_ _ | refine bDr ?_ | refine bAl ?_ _)); exact BK194.out) hb); have n1_ := Z0.mk (below_step (by repeat (first | (with_reducible first | exact HB.out | apply beA | apply bpN | apply bd1 | refine beS ?_ GE194.out) | exact HB.out)) hb); clear BK194; clear HB; have BK194 := n0_; have HB := n1_; clear n0_ n1_; (try clear hb); (try clear hb2); (try clear hk); (try clear hi)))
    go_ret
    exact ⟨by first | rfl | (simp [errW_none, errW_some] <;> rfl) | (simp [*, errW_none, errW_some] <;> rfl), by repeat (first | (with_reducible first | exact HB.out | apply beA | apply bpN | apply bd1 | refine beS ?_ GE194.out) | exact HB.out)⟩
end Go.Proofs.Ytdeeffahfkndkaa.P
namespace Go.Proofs.Ytdeeffahfkndkaa.P
open Go.RowKit Go.Proofs.YtdeeffahfkndkaaW.PrintWords Go.Proofs.YtdeeffahfkndkaaW.PrintLast Go.Proofs.YtdeeffahfkndkaaW.PrintMore
attribute [local go_sem] max2_int min2_int max_two min_two max_three min_three max_four min_four
set_option linter.unusedVariables false
set_option linter.unusedSimpArgs false
mutual
def columbaryref13_Less.l0 : Nat → Int → Int → List ByteArray → Int → List (S71) → Int → List ByteArray → Int → List (S71) → Option (Bool)
 | 0, _, _, _, _, _, _, _, _, _ => none
 | k + 1, x5, x200000, x200001, x200002, x200003, x201000, x201001, x201002, x201003 => if x5 < (x200001.length : Int) then (columbaryref13_Less.j1 k x5 (decide (x5 < (x201001.length : Int))) x200000 x200001 x200002 x200003 x201000 x201001 x201002 x201003) else (columbaryref13_Less.j1 k x5 false x200000 x200001 x200002 x200003 x201000 x201001 x201002 x201003)
def columbaryref13_Less.j1 : Nat → Int → Bool → Int → List ByteArray → Int → List (S71) → Int → List ByteArray → Int → List (S71) → Option (Bool)
 | 0, _, _, _, _, _, _, _, _, _, _ => none
 | k + 1, x5, x27, x200000, x200001, x200002, x200003, x201000, x201001, x201002, x201003 => if x27 = true then (if 0 ≤ x5 then (if x5 < (x200001.length : Int) then (if x5 < (x201001.length : Int) then (if (rdOf ByteArray.empty x200001 x5).toList = (rdOf ByteArray.empty x201001 x5).toList then (columbaryref13_Less.l0 k (wrap64 (x5 + 1)) x200000 x200001 x200002 x200003 x201000 x201001 x201002 x201003) else (some (Op.bytesLess ((rdOf ByteArray.empty x200001 x5).toList) ((rdOf ByteArray.empty x201001 x5).toList)))) else (none)) else (none)) else (none)) else (some false)
end
def columbaryref13_Less.f (k : Nat) (a0_0 : Int) (l0_1 : List ByteArray) (a0_2 : Int) (l0_3 : List (S71)) (a1_0 : Int) (l1_1 : List ByteArray) (a1_2 : Int) (l1_3 : List (S71)) : Option (Bool) := if a0_0 = a1_0 then (columbaryref13_Less.l0 k 0 a0_0 l0_1 a0_2 l0_3 a1_0 l1_1 a1_2 l1_3) else (some (decide (a0_0 < a1_0)))
set_option maxHeartbeats 8000000 in
set_option maxRecDepth 100000 in
theorem columbaryref13_Less.calls (k : Nat) (a0_0 : Int) (A0_1 : Option Addr) (c0_1 : Nat) (l0_1 : List ByteArray) (a0_2 : Int) (A0_3 : Option Addr) (c0_3 : Nat) (l0_3 : List (S71)) (a1_0 : Int) (A1_1 : Option Addr) (c1_1 : Nat) (l1_1 : List ByteArray) (a1_2 : Int) (A1_3 : Option Addr) (c1_3 : Nat) (l1_3 : List (S71)) (r : Bool) (w : World) (hr0_1 : Kd.C Kd.string w A0_1 l0_1.length l0_1) (hc0_1 : l0_1.length ≤ c0_1) (hr0_3 : Kd.C k71 w A0_3 l0_3.length l0_3) (hc0_3 : l0_3.length ≤ c0_3) (hr1_1 : Kd.C Kd.string w A1_1 l1_1.length l1_1) (hc1_1 : l1_1.length ≤ c1_1) (hr1_3 : Kd.C k71 w A1_3 l1_3.length l1_3) (hc1_3 : l1_3.length ≤ c1_3) (h : columbaryref13_Less.f k a0_0 l0_1 a0_2 l0_3 a1_0 l1_1 a1_2 l1_3 = some r) :
  Calls Try.prog 32 #[.agg #[.int .i64 a0_0, .slice A0_1 l0_1.length c0_1, .int .i64 a0_2, .slice A0_3 l0_3.length c0_3], .agg #[.int .i64 a1_0, .slice A1_1 l1_1.length c1_1, .int .i64 a1_2, .slice A1_3 l1_3.length c1_3]] w fun e w' => e = .returned (.bool r) ∧ Below w.heap.size w w' := by
 have hu39 := Try.underlying39
 have HR0_1 := Z0.mk hr0_1
 have HC0_1 := Z0.mk hc0_1
 clear hr0_1 hc0_1
 have HR0_3 := Z0.mk hr0_3
 have HC0_3 := Z0.mk hc0_3
 clear hr0_3 hc0_3
 have HR1_1 := Z0.mk hr1_1
 have HC1_1 := Z0.mk hc1_1
 clear hr1_1 hc1_1
 have HR1_3 := Z0.mk hr1_3
 have HC1_3 := Z0.mk hc1_3
 clear hr1_3 hc1_3
 have HB := Z0.mk (Below.refl w.heap.size w)
 have H : (if a0_0 = a1_0 then (columbaryref13_Less.l0 k 0 a0_0 l0_1 a0_2 l0_3 a1_0 l1_1 a1_2 l1_3) else (some (decide (a0_0 < a1_0)))) = some r := h
 clear h
 by_cases c3 : a0_0 = a1_0
 ·rw [if_pos c3] at H
  have c3b0 : (a0_0 == a1_0) = true := beq_iff_eq.mpr c3
  have c3b1 : (a0_0 != a1_0) = false := bne_eq_false_iff_eq.mpr c3
  clear c3
  have H' := Z0.mk H
  clear H
  go_enter Try.func32, Try.ntmps32
  go_wp2_with (first | ((with_reducible refine gate_dst (N := 2) rfl ?_); (try (refine gate_guard (by rfl) ?_; dsimp only)); refine box_event ?hg (N := 2) ?hd (cs := #[.int .i64 a0_0, .slice A0_1 l0_1.length c0_1, .int .i64 a0_2, .slice A0_3 l0_3.length c0_3]) (t := 39) ?hr ?_; (case hd => rfl); (case hg => rfl); (case hr => first | (go_simp; done) | (go_simp; rfl)); intro gb199 hg w4 hbox hb; have n0_ := Z0.mk (below_step (by repeat (first | (with_reducible first | exact HB.out | apply beA | apply bpN | apply bd1) | exact HB.out)) hb); have n1_ := Z0.mk (hbox); have n2_ := Z0.mk ((by rw [hg]; exact (below_size (by repeat (first | (with_reducible first | exact HB.out | apply beA | apply bpN | apply bd1) | exact HB.out))) : w.heap.size ≤ gb199)); have n3_ := Z0.mk ((by rw [hg]; exact (below_size (by repeat (first | (with_reducible first | exact HB.out | apply beA | apply bpN | apply bd1) | exact HB.out))) : w.heap.size ≤ gb199)); clear HB; have HB := n0_; have BK199 := n1_; have GW199 := n2_; have GE199 := n3_; clear n0_ n1_ n2_ n3_; clear hb hbox hg) | ((with_reducible refine gate_dst (N := 3) rfl ?_); (try (refine gate_guard (by rfl) ?_; dsimp only)); refine box_event ?hg (N := 3) ?hd (cs := #[.int .i64 a1_0, .slice A1_1 l1_1.length c1_1, .int .i64 a1_2, .slice A1_3 l1_3.length c1_3]) (t := 39) ?hr ?_; (case hd => rfl); (case hg => rfl); (case hr => first | (go_simp; done) | (go_simp; rfl)); intro gb200 hg w5 hbox hb; have n0_ := Z0.mk (blk_below (g := gb199) (o := .cells #[.int .i64 a0_0, .slice A0_1 l0_1.length c0_1, .int .i64 a0_2, .slice A0_3 l0_3.length c0_3] 39 (0, 0)) (by (with_reducible repeat (first | refine bDN ?_ _ | refine bDr ?_ | refine bAl ?_ _)); exact BK199.out) hb); have n1_ := Z0.mk (below_step (by repeat (first | (with_reducible first | exact HB.out | apply beA | apply bpN | apply bd1 | refine beS ?_ GE199.out) | exact HB.out)) hb); have n2_ := Z0.mk (hbox); have n3_ := Z0.mk ((by rw [hg]; exact (below_size (by repeat (first | (with_reducible first | exact HB.out | apply beA | apply bpN | apply bd1 | refine beS ?_ GE199.out) | exact HB.out))) : w.heap.size ≤ gb200)); have n4_ := Z0.mk ((by rw [hg]; exact (below_size (by repeat (first | (with_reducible first | exact HB.out | apply beA | apply bpN | apply bd1 | refine beS ?_ GE199.out) | exact HB.out))) : w.heap.size ≤ gb200)); have n5_ := Z0.mk ((by rw [hg]; exact Nat.ne_of_lt (blk_lt (g := gb199) (o := .cells #[.int .i64 a0_0, .slice A0_1 l0_1.length c0_1, .int .i64 a0_2, .slice A0_3 l0_3.length c0_3] 39 (0, 0)) (by (with_reducible repeat (first | refine bDN ?_ _ | refine bDr ?_ | refine bAl ?_ _)); exact BK199.out)) : gb199 ≠ gb200)); have n6_ := Z0.mk ((by rw [hg]; exact Nat.ne_of_gt (blk_lt (g := gb199) (o := .cells #[.int .i64 a0_0, .slice A0_1 l0_1.length c0_1, .int .i64 a0_2, .slice A0_3 l0_3.length c0_3] 39 (0, 0)) (by (with_reducible repeat (first | refine bDN ?_ _ | refine bDr ?_ | refine bAl ?_ _)); exact BK199.out)) : gb200 ≠ gb199)); clear BK199; clear HB; have BK199 := n0_; have HB := n1_; have BK200 := n2_; have GW200 := n3_; have GE200 := n4_; have NB199_200 := n5_; have NB200_199 := n6_; clear n0_ n1_ n2_ n3_ n4_ n5_ n6_; clear hb hbox hg; have hnb6 := NB199_200.out; have hnc6 := NB200_199.out; have hcz7_0 : w5.cell? ⟨gb199, 0, none⟩ = some (.int .i64 a0_0) := (bCe BK199.out 0).trans rfl; have hcz7_1 : w5.cell? ⟨gb199, 1, none⟩ = some (.slice A0_1 l0_1.length c0_1) := (bCe BK199.out 1).trans rfl; have hcz7_2 : w5.cell? ⟨gb199, 2, none⟩ = some (.int .i64 a0_2) := (bCe BK199.out 2).trans rfl; have hcz7_3 : w5.cell? ⟨gb199, 3, none⟩ = some (.slice A0_3 l0_3.length c0_3) := (bCe BK199.out 3).trans rfl; have hfz7_0 := bFz BK199.out 0; have hfz7_1 := bFz BK199.out 1; have hfz7_2 := bFz BK199.out 2; have hfz7_3 := bFz BK199.out 3; have hcz8_0 : w5.cell? ⟨gb200, 0, none⟩ = some (.int .i64 a1_0) := (bCe BK200.out 0).trans rfl; have hcz8_1 : w5.cell? ⟨gb200, 1, none⟩ = some (.slice A1_1 l1_1.length c1_1) := (bCe BK200.out 1).trans rfl; have hcz8_2 : w5.cell? ⟨gb200, 2, none⟩ = some (.int .i64 a1_2) := (bCe BK200.out 2).trans rfl; have hcz8_3 : w5.cell? ⟨gb200, 3, none⟩ = some (.slice A1_3 l1_3.length c1_3) := (bCe BK200.out 3).trans rfl; have hfz8_0 := bFz BK200.out 0; have hfz8_1 := bFz BK200.out 1; have hfz8_2 := bFz BK200.out 2; have hfz8_3 := bFz BK200.out 3))
  repeat (go_quiet (first | ((with_reducible refine gate_dst (N := 2) rfl ?_); (try (refine gate_guard (by rfl) ?_; dsimp only)); refine box_event ?hg (N := 2) ?hd (cs := #[.int .i64 a0_0, .slice A0_1 l0_1.length c0_1, .int .i64 a0_2, .slice A0_3 l0_3.length c0_3]) (t := 39) ?hr ?_; (case hd => rfl); (case hg => rfl); (case hr => first | (go_simp; done) | (go_simp; rfl)); intro gb199 hg w4 hbox hb; have n0_ := Z0.mk (below_step (by repeat (first | (with_reducible first | exact HB.out | apply beA | apply bpN | apply bd1) | exact HB.out)) hb); have n1_ := Z0.mk (hbox); have n2_ := Z0.mk ((by rw [hg]; exact (below_size (by repeat (first | (with_reducible first | exact HB.out | apply beA | apply bpN | apply bd1) | exact HB.out))) : w.heap.size ≤ gb199)); have n3_ := Z0.mk ((by rw [hg]; exact (below_size (by repeat (first | (with_reducible first | exact HB.out | apply beA | apply bpN | apply bd1) | exact HB.out))) : w.heap.size ≤ gb199)); clear HB; have HB := n0_; have BK199 := n1_; have GW199 := n2_; have GE199 := n3_; clear n0_ n1_ n2_ n3_; clear hb hbox hg) | ((with_reducible refine gate_dst (N := 3) rfl ?_); (try (refine gate_guard (by rfl) ?_; dsimp only)); refine box_event ?hg (N := 3) ?hd (cs := #[.int .i64 a1_0, .slice A1_1 l1_1.length c1_1, .int .i64 a1_2, .slice A1_3 l1_3.length c1_3]) (t := 39) ?hr ?_; (case hd => rfl); (case hg => rfl); (case hr => first | (go_simp; done) | (go_simp; rfl)); intro gb200 hg w5 hbox hb; have n0_ := Z0.mk (blk_below (g := gb199) (o := .cells #[.int .i64 a0_0, .slice A0_1 l0_1.length c0_1, .int .i64 a0_2, .slice A0_3 l0_3.length c0_3] 39 (0, 0)) (by (with_reducible repeat (first | refine bDN ?_ _ | refine bDr ?_ | refine bAl ?_ _)); exact BK199.out) hb); have n1_ := Z0.mk (below_step (by repeat (first | (with_reducible first | exact HB.out | apply beA | apply bpN | apply bd1 | refine beS ?_ GE199.out) | exact HB.out)) hb); have n2_ := Z0.mk (hbox); have n3_ := Z0.mk ((by rw [hg]; exact (below_size (by repeat (first | (with_reducible first | exact HB.out | apply beA | apply bpN | apply bd1 | refine beS ?_ GE199.out) | exact HB.out))) : w.heap.size ≤ gb200)); have n4_ := Z0.mk ((by rw [hg]; exact (below_size (by repeat (first | (with_reducible first | exact HB.out | apply beA | apply bpN | apply bd1 | refine beS ?_ GE199.out) | exact HB.out))) : w.heap.size ≤ gb200)); have n5_ := Z0.mk ((by rw [hg]; exact Nat.ne_of_lt (blk_lt (g := gb199) (o := .cells #[.int .i64 a0_0, .slice A0_1 l0_1.length c0_1, .int .i64 a0_2, .slice A0_3 l0_3.length c0_3] 39 (0, 0)) (by (with_reducible repeat (first | refine bDN ?_ _ | refine bDr ?_ | refine bAl ?_ _)); exact BK199.out)) : gb199 ≠ gb200)); have n6_ := Z0.mk ((by rw [hg]; exact Nat.ne_of_gt (blk_lt (g := gb199) (o := .cells #[.int .i64 a0_0, .slice A0_1 l0_1.length c0_1, .int .i64 a0_2, .slice A0_3 l0_3.length c0_3] 39 (0, 0)) (by (with_reducible repeat (first | refine bDN ?_ _ | refine bDr ?_ | refine bAl ?_ _)); exact BK199.out)) : gb200 ≠ gb199)); clear BK199; clear HB; have BK199 := n0_; have HB := n1_; have BK200 := n2_; have GW200 := n3_; have GE200 := n4_; have NB199_200 := n5_; have NB200_199 := n6_; clear n0_ n1_ n2_ n3_ n4_ n5_ n6_; clear hb hbox hg; have hnb6 := NB199_200.out; have hnc6 := NB200_199.out; have hcz7_0 : w5.cell? ⟨gb199, 0, none⟩ = some (.int .i64 a0_0) := (bCe BK199.out 0).trans rfl; have hcz7_1 : w5.cell? ⟨gb199, 1, none⟩ = some (.slice A0_1 l0_1.length c0_1) := (bCe BK199.out 1).trans rfl; have hcz7_2 : w5.cell? ⟨gb199, 2, none⟩ = some (.int .i64 a0_2) := (bCe BK199.out 2).trans rfl; have hcz7_3 : w5.cell? ⟨gb199, 3, none⟩ = some (.slice A0_3 l0_3.length c0_3) := (bCe BK199.out 3).trans rfl; have hfz7_0 := bFz BK199.out 0; have hfz7_1 := bFz BK199.out 1; have hfz7_2 := bFz BK199.out 2; have hfz7_3 := bFz BK199.out 3; have hcz8_0 : w5.cell? ⟨gb200, 0, none⟩ = some (.int .i64 a1_0) := (bCe BK200.out 0).trans rfl; have hcz8_1 : w5.cell? ⟨gb200, 1, none⟩ = some (.slice A1_1 l1_1.length c1_1) := (bCe BK200.out 1).trans rfl; have hcz8_2 : w5.cell? ⟨gb200, 2, none⟩ = some (.int .i64 a1_2) := (bCe BK200.out 2).trans rfl; have hcz8_3 : w5.cell? ⟨gb200, 3, none⟩ = some (.slice A1_3 l1_3.length c1_3) := (bCe BK200.out 3).trans rfl; have hfz8_0 := bFz BK200.out 0; have hfz8_1 := bFz BK200.out 1; have hfz8_2 := bFz BK200.out 2; have hfz8_3 := bFz BK200.out 3)); try go_wp2_with (first | ((with_reducible refine gate_dst (N := 2) rfl ?_); (try (refine gate_guard (by rfl) ?_; dsimp only)); refine box_event ?hg (N := 2) ?hd (cs := #[.int .i64 a0_0, .slice A0_1 l0_1.length c0_1, .int .i64 a0_2, .slice A0_3 l0_3.length c0_3]) (t := 39) ?hr ?_; (case hd => rfl); (case hg => rfl); (case hr => first | (go_simp; done) | (go_simp; rfl)); intro gb199 hg w4 hbox hb; have n0_ := Z0.mk (below_step (by repeat (first | (with_reducible first | exact HB.out | apply beA | apply bpN | apply bd1) | exact HB.out)) hb); have n1_ := Z0.mk (hbox); have n2_ := Z0.mk ((by rw [hg]; exact (below_size (by repeat (first | (with_reducible first | exact HB.out | apply beA | apply bpN | apply bd1) | exact HB.out))) : w.heap.size ≤ gb199)); have n3_ := Z0.mk ((by rw [hg]; exact (below_size (by repeat (first | (with_reducible first | exact HB.out | apply beA | apply bpN | apply bd1) | exact HB.out))) : w.heap.size ≤ gb199)); clear HB; have HB := n0_; have BK199 := n1_; have GW199 := n2_; have GE199 := n3_; clear n0_ n1_ n2_ n3_; clear hb hbox hg) | ((with_reducible refine gate_dst (N := 3) rfl ?_); (try (refine gate_guard (by rfl) ?_; dsimp only)); refine box_event ?hg (N := 3) ?hd (cs := #[.int .i64 a1_0, .slice A1_1 l1_1.length c1_1, .int .i64 a1_2, .slice A1_3 l1_3.length c1_3]) (t := 39) ?hr ?_; (case hd => rfl); (case hg => rfl); (case hr => first | (go_simp; done) | (go_simp; rfl)); intro gb200 hg w5 hbox hb; have n0_ := Z0.mk (blk_below (g := gb199) (o := .cells #[.int .i64 a0_0, .slice A0_1 l0_1.length c0_1, .int .i64 a0_2, .slice A0_3 l0_3.length c0_3] 39 (0, 0)) (by (with_reducible repeat (first | refine bDN ?_ _ | refine bDr ?_ | refine bAl ?_ _)); exact BK199.out) hb); have n1_ := Z0.mk (below_step (by repeat (first | (with_reducible first | exact HB.out | apply beA | apply bpN | apply bd1 | refine beS ?_ GE199.out) | exact HB.out)) hb); have n2_ := Z0.mk (hbox); have n3_ := Z0.mk ((by rw [hg]; exact (below_size (by repeat (first | (with_reducible first | exact HB.out | apply beA | apply bpN | apply bd1 | refine beS ?_ GE199.out) | exact HB.out))) : w.heap.size ≤ gb200)); have n4_ := Z0.mk ((by rw [hg]; exact (below_size (by repeat (first | (with_reducible first | exact HB.out | apply beA | apply bpN | apply bd1 | refine beS ?_ GE199.out) | exact HB.out))) : w.heap.size ≤ gb200)); have n5_ := Z0.mk ((by rw [hg]; exact Nat.ne_of_lt (blk_lt (g := gb199) (o := .cells #[.int .i64 a0_0, .slice A0_1 l0_1.length c0_1, .int .i64 a0_2, .slice A0_3 l0_3.length c0_3] 39 (0, 0)) (by (with_reducible repeat (first | refine bDN ?_ _ | refine bDr ?_ | refine bAl ?_ _)); exact BK199.out)) : gb199 ≠ gb200)); have n6_ := Z0.mk ((by rw [hg]; exact Nat.ne_of_gt (blk_lt (g := gb199) (o := .cells #[.int .i64 a0_0, .slice A0_1 l0_1.length c0_1, .int .i64 a0_2, .slice A0_3 l0_3.length c0_3] 39 (0, 0)) (by (with_reducible repeat (first | refine bDN ?_ _ | refine bDr ?_ | refine bAl ?_ _)); exact BK199.out)) : gb200 ≠ gb199)); clear BK199; clear HB; have BK199 := n0_; have HB := n1_; have BK200 := n2_; have GW200 := n3_; have GE200 := n4_; have NB199_200 := n5_; have NB200_199 := n6_; clear n0_ n1_ n2_ n3_ n4_ n5_ n6_; clear hb hbox hg; have hnb6 := NB199_200.out; have hnc6 := NB200_199.out; have hcz7_0 : w5.cell? ⟨gb199, 0, none⟩ = some (.int .i64 a0_0) := (bCe BK199.out 0).trans rfl; have hcz7_1 : w5.cell? ⟨gb199, 1, none⟩ = some (.slice A0_1 l0_1.length c0_1) := (bCe BK199.out 1).trans rfl; have hcz7_2 : w5.cell? ⟨gb199, 2, none⟩ = some (.int .i64 a0_2) := (bCe BK199.out 2).trans rfl; have hcz7_3 : w5.cell? ⟨gb199, 3, none⟩ = some (.slice A0_3 l0_3.length c0_3) := (bCe BK199.out 3).trans rfl; have hfz7_0 := bFz BK199.out 0; have hfz7_1 := bFz BK199.out 1; have hfz7_2 := bFz BK199.out 2; have hfz7_3 := bFz BK199.out 3; have hcz8_0 : w5.cell? ⟨gb200, 0, none⟩ = some (.int .i64 a1_0) := (bCe BK200.out 0).trans rfl; have hcz8_1 : w5.cell? ⟨gb200, 1, none⟩ = some (.slice A1_1 l1_1.length c1_1) := (bCe BK200.out 1).trans rfl; have hcz8_2 : w5.cell? ⟨gb200, 2, none⟩ = some (.int .i64 a1_2) := (bCe BK200.out 2).trans rfl; have hcz8_3 : w5.cell? ⟨gb200, 3, none⟩ = some (.slice A1_3 l1_3.length c1_3) := (bCe BK200.out 3).trans rfl; have hfz8_0 := bFz BK200.out 0; have hfz8_1 := bFz BK200.out 1; have hfz8_2 := bFz BK200.out 2; have hfz8_3 := bFz BK200.out 3)))
  go_loopg [5] k (fun kq v5 w' => ∃ (x5_1 : Int), v5 = .int .i64 x5_1 ∧ Z0 (columbaryref13_Less.l0 kq x5_1 a0_0 l0_1 a0_2 l0_3 a1_0 l1_1 a1_2 l1_3 = some r) ∧ Z0 (kq ≤ k) ∧ Z0 (w'.heap[gb199]? = some (.cells #[.int .i64 a0_0, (.slice A0_1 l0_1.length c0_1), .int .i64 a0_2, (.slice A0_3 l0_3.length c0_3)] 39 (0, 0))) ∧ Z0 (w'.heap[gb200]? = some (.cells #[.int .i64 a1_0, (.slice A1_1 l1_1.length c1_1), .int .i64 a1_2, (.slice A1_3 l1_3.length c1_3)] 39 (0, 0))) ∧ Z0 (Below w.heap.size w w'))
  case atStart => exact ⟨(0), (by first | rfl | (simp; done) | (simp [*]; done)), H', ⟨Nat.le_refl _⟩, ⟨by (with_reducible repeat (first | refine bDN ?_ _ | refine bDr ?_ | refine bAl ?_ _)); exact BK199.out⟩, ⟨by (with_reducible repeat (first | refine bDN ?_ _ | refine bDr ?_ | refine bAl ?_ _)); exact BK200.out⟩, ⟨by repeat (first | (with_reducible first | exact HB.out | apply beA | apply bpN | apply bd1 | refine beS ?_ GE199.out | refine beS ?_ GE200.out) | exact HB.out)⟩⟩
  case round =>
   clear H'
   try clear c1
   try clear p2
   try clear c3
   try clear c3b0
   try clear c3b1
   try clear c6
   try clear hcz7_0
   try clear hcz7_1
   try clear hcz7_2
   try clear hcz7_3
   try clear hcz8_0
   try clear hcz8_1
   try clear hcz8_2
   try clear hcz8_3
   try clear hfz7_0
   try clear hfz7_1
   try clear hfz7_2
   try clear hfz7_3
   try clear hfz8_0
   try clear hfz8_1
   try clear hfz8_2
   try clear hfz8_3
   obtain ⟨x5_1, rfl, HA, HK1, BK199, BK200, HB⟩ := hrel
   cases gk with
   | zero => exact absurd HA.out (by simp [columbaryref13_Less.l0])
   | succ k1 =>
    have H := HA.out
    clear HA
    simp only [columbaryref13_Less.l0] at H
    have HC9 := Z0.mk H
    clear H
    go_upto_region 4 with (fail)
    repeat (go_quiet (fail); go_upto_region 4 with (fail))
    go_cut [27] (fun v27 wc => ∃ (kq : Nat) (x27_8 : Bool), v27 = .bool x27_8 ∧ Z0 (columbaryref13_Less.j1 kq x5_1 x27_8 a0_0 l0_1 a0_2 l0_3 a1_0 l1_1 a1_2 l1_3 = some r) ∧ Z0 (kq ≤ k1) ∧ Z0 (wc.heap[gb199]? = some (.cells #[.int .i64 a0_0, (.slice A0_1 l0_1.length c0_1), .int .i64 a0_2, (.slice A0_3 l0_3.length c0_3)] 39 (0, 0))) ∧ Z0 (wc.heap[gb200]? = some (.cells #[.int .i64 a1_0, (.slice A1_1 l1_1.length c1_1), .int .i64 a1_2, (.slice A1_3 l1_3.length c1_3)] 39 (0, 0))) ∧ Z0 (Below w.heap.size w wc))
    case first =>
     have H := HC9.out
     clear HC9
     by_cases c10 : x5_1 < (l0_1.length : Int)
     ·rw [if_pos c10] at H
      have c10b0 : decide (x5_1 < (l0_1.length : Int)) = true := decide_eq_true c10
      clear c10
      (first | rw [c10b0] | (simp only [i64_w, i32_w]; rw [c10b0]) | skip)
      have H' := Z0.mk H
      clear H
      have hnb11 := NB199_200.out
      have hnc11 := NB200_199.out
      have hcz12_0 : wr.cell? ⟨gb199, 0, none⟩ = some (.int .i64 a0_0) := (bCe BK199.out 0).trans rfl
      have hcz12_1 : wr.cell? ⟨gb199, 1, none⟩ = some (.slice A0_1 l0_1.length c0_1) := (bCe BK199.out 1).trans rfl
      have hcz12_2 : wr.cell? ⟨gb199, 2, none⟩ = some (.int .i64 a0_2) := (bCe BK199.out 2).trans rfl
      have hcz12_3 : wr.cell? ⟨gb199, 3, none⟩ = some (.slice A0_3 l0_3.length c0_3) := (bCe BK199.out 3).trans rfl
      have hfz12_0 := bFz BK199.out 0
      have hfz12_1 := bFz BK199.out 1
      have hfz12_2 := bFz BK199.out 2
      have hfz12_3 := bFz BK199.out 3
      have hcz13_0 : wr.cell? ⟨gb200, 0, none⟩ = some (.int .i64 a1_0) := (bCe BK200.out 0).trans rfl
      have hcz13_1 : wr.cell? ⟨gb200, 1, none⟩ = some (.slice A1_1 l1_1.length c1_1) := (bCe BK200.out 1).trans rfl
      have hcz13_2 : wr.cell? ⟨gb200, 2, none⟩ = some (.int .i64 a1_2) := (bCe BK200.out 2).trans rfl
      have hcz13_3 : wr.cell? ⟨gb200, 3, none⟩ = some (.slice A1_3 l1_3.length c1_3) := (bCe BK200.out 3).trans rfl
      have hfz13_0 := bFz BK200.out 0
      have hfz13_1 := bFz BK200.out 1
      have hfz13_2 := bFz BK200.out 2
      have hfz13_3 := bFz BK200.out 3
      go_wp2
      repeat (go_quiet (fail); try go_wp2)
      go_meet
      case rel => exact ⟨_, (decide (x5_1 < (l1_1.length : Int))), (by first | rfl | (simp; done) | (simp [*]; done)), H', ⟨by have := HK1.out; first | omega | exact Nat.le_refl _⟩, ⟨by (with_reducible repeat (first | refine bDN ?_ _ | refine bDr ?_ | refine bAl ?_ _)); exact BK199.out⟩, ⟨by (with_reducible repeat (first | refine bDN ?_ _ | refine bDr ?_ | refine bAl ?_ _)); exact BK200.out⟩, ⟨by repeat (first | (with_reducible first | exact HB.out | apply beA | apply bpN | apply bd1 | refine beS ?_ GE199.out | refine beS ?_ GE200.out) | exact HB.out)⟩⟩
     ·rw [if_neg c10] at H
      have c10b0 : decide (x5_1 < (l0_1.length : Int)) = false := decide_eq_false c10
      clear c10
      (first | rw [c10b0] | (simp only [i64_w, i32_w]; rw [c10b0]) | skip)
      have H' := Z0.mk H
      clear H
      have hnb14 := NB199_200.out
      have hnc14 := NB200_199.out
      have hcz15_0 : wr.cell? ⟨gb199, 0, none⟩ = some (.int .i64 a0_0) := (bCe BK199.out 0).trans rfl
      have hcz15_1 : wr.cell? ⟨gb199, 1, none⟩ = some (.slice A0_1 l0_1.length c0_1) := (bCe BK199.out 1).trans rfl
      have hcz15_2 : wr.cell? ⟨gb199, 2, none⟩ = some (.int .i64 a0_2) := (bCe BK199.out 2).trans rfl
      have hcz15_3 : wr.cell? ⟨gb199, 3, none⟩ = some (.slice A0_3 l0_3.length c0_3) := (bCe BK199.out 3).trans rfl
      have hfz15_0 := bFz BK199.out 0
      have hfz15_1 := bFz BK199.out 1
      have hfz15_2 := bFz BK199.out 2
      have hfz15_3 := bFz BK199.out 3
      go_wp2
      repeat (go_quiet (fail); try go_wp2)
      go_meet
      case rel => exact ⟨_, (false), (by first | rfl | (simp; done) | (simp [*]; done)), H', ⟨by have := HK1.out; first | omega | exact Nat.le_refl _⟩, ⟨by (with_reducible repeat (first | refine bDN ?_ _ | refine bDr ?_ | refine bAl ?_ _)); exact BK199.out⟩, ⟨by (with_reducible repeat (first | refine bDN ?_ _ | refine bDr ?_ | refine bAl ?_ _)); exact BK200.out⟩, ⟨by repeat (first | (with_reducible first | exact HB.out | apply beA | apply bpN | apply bd1 | refine beS ?_ GE199.out | refine beS ?_ GE200.out) | exact HB.out)⟩⟩
    case rest =>
     clear HC9
     try clear c1
     try clear p2
     try clear c3
     try clear c3b0
     try clear c3b1
     try clear c6
     try clear c10
     try clear c10b0
     try clear c11
     try clear c14
     try clear hcz12_0
     try clear hcz12_1
     try clear hcz12_2
     try clear hcz12_3
     try clear hcz13_0
     try clear hcz13_1
     try clear hcz13_2
     try clear hcz13_3
     try clear hcz15_0
     try clear hcz15_1
     try clear hcz15_2
     try clear hcz15_3
     try clear hcz7_0
     try clear hcz7_1
     try clear hcz7_2
     try clear hcz7_3
     try clear hcz8_0
     try clear hcz8_1
     try clear hcz8_2
     try clear hcz8_3
     try clear hfz12_0
     try clear hfz12_1
     try clear hfz12_2
     try clear hfz12_3
     try clear hfz13_0
     try clear hfz13_1
     try clear hfz13_2
     try clear hfz13_3
     try clear hfz15_0
     try clear hfz15_1
     try clear hfz15_2
     try clear hfz15_3
     try clear hfz7_0
     try clear hfz7_1
     try clear hfz7_2
     try clear hfz7_3
     try clear hfz8_0
     try clear hfz8_1
     try clear hfz8_2
     try clear hfz8_3
     try clear p2
     obtain ⟨kq, x27_8, rfl, HA, HJ8, BK199, BK200, HB⟩ := hcut
     cases kq with
     | zero => exact absurd HA.out (by simp [columbaryref13_Less.j1])
     | succ kj8 =>
      have H := HA.out
      clear HA
      simp only [columbaryref13_Less.j1] at H
      by_cases c16 : x27_8 = true
      ·subst c16
       have H1 : (if 0 ≤ x5_1 then (if x5_1 < (l0_1.length : Int) then (if x5_1 < (l1_1.length : Int) then (if (rdOf ByteArray.empty l0_1 x5_1).toList = (rdOf ByteArray.empty l1_1 x5_1).toList then (columbaryref13_Less.l0 kj8 (wrap64 (x5_1 + 1)) a0_0 l0_1 a0_2 l0_3 a1_0 l1_1 a1_2 l1_3) else (some (Op.bytesLess ((rdOf ByteArray.empty l0_1 x5_1).toList) ((rdOf ByteArray.empty l1_1 x5_1).toList)))) else (none)) else (none)) else (none)) = some r := by rw [if_pos rfl] at H; exact H
       clear H
       have H := H1
       clear H1
       by_cases c17 : 0 ≤ x5_1
       ·rw [if_pos c17] at H
        have c17b0 : decide (0 ≤ x5_1) = true := decide_eq_true c17
        clear c17
        by_cases c18 : x5_1 < (l0_1.length : Int)
        ·rw [if_pos c18] at H
         have c18b0 : decide (x5_1 < (l0_1.length : Int)) = true := decide_eq_true c18
         clear c18
         by_cases c19 : x5_1 < (l1_1.length : Int)
         ·rw [if_pos c19] at H
          have c19b0 : decide (x5_1 < (l1_1.length : Int)) = true := decide_eq_true c19
          clear c19
          by_cases c20 : (rdOf ByteArray.empty l0_1 x5_1).toList = (rdOf ByteArray.empty l1_1 x5_1).toList
          ·rw [if_pos c20] at H
           have c20b0 : ((rdOf ByteArray.empty l0_1 x5_1).toList == (rdOf ByteArray.empty l1_1 x5_1).toList) = true := beq_iff_eq.mpr c20
           have c20b1 : ((rdOf ByteArray.empty l0_1 x5_1).toList != (rdOf ByteArray.empty l1_1 x5_1).toList) = false := bne_eq_false_iff_eq.mpr c20
           clear c20
           have H' := Z0.mk H
           clear H
           have hnb21 := NB199_200.out
           have hnc21 := NB200_199.out
           have hcz22_0 : wc.cell? ⟨gb199, 0, none⟩ = some (.int .i64 a0_0) := (bCe BK199.out 0).trans rfl
           have hcz22_1 : wc.cell? ⟨gb199, 1, none⟩ = some (.slice A0_1 l0_1.length c0_1) := (bCe BK199.out 1).trans rfl
           have hcz22_2 : wc.cell? ⟨gb199, 2, none⟩ = some (.int .i64 a0_2) := (bCe BK199.out 2).trans rfl
           have hcz22_3 : wc.cell? ⟨gb199, 3, none⟩ = some (.slice A0_3 l0_3.length c0_3) := (bCe BK199.out 3).trans rfl
           have hfz22_0 := bFz BK199.out 0
           have hfz22_1 := bFz BK199.out 1
           have hfz22_2 := bFz BK199.out 2
           have hfz22_3 := bFz BK199.out 3
           have p201 : 0 ≤ (x5_1 : Int) := of_decide_eq_true (by first | (with_reducible assumption) | assumption)
           have q201 : x5_1 < (l0_1.length : Int) := of_decide_eq_true (by first | (with_reducible assumption) | assumption)
           obtain ⟨ad201, e201, hx201_0⟩ := Kd.at_string HR0_1.out x5_1 p201 q201
           cases e201
           replace hx201_0 := (HB.out.cell (World.block_lt_of_cell? w _ hx201_0)).trans hx201_0
           replace p201 := eq_true p201
           replace q201 := eq_true q201
           have hcz23_0 : wc.cell? ⟨gb200, 0, none⟩ = some (.int .i64 a1_0) := (bCe BK200.out 0).trans rfl
           have hcz23_1 : wc.cell? ⟨gb200, 1, none⟩ = some (.slice A1_1 l1_1.length c1_1) := (bCe BK200.out 1).trans rfl
           have hcz23_2 : wc.cell? ⟨gb200, 2, none⟩ = some (.int .i64 a1_2) := (bCe BK200.out 2).trans rfl
           have hcz23_3 : wc.cell? ⟨gb200, 3, none⟩ = some (.slice A1_3 l1_3.length c1_3) := (bCe BK200.out 3).trans rfl
           have hfz23_0 := bFz BK200.out 0
           have hfz23_1 := bFz BK200.out 1
           have hfz23_2 := bFz BK200.out 2
           have hfz23_3 := bFz BK200.out 3
           have p202 : 0 ≤ (x5_1 : Int) := of_decide_eq_true (by first | (with_reducible assumption) | assumption)
           have q202 : x5_1 < (l1_1.length : Int) := of_decide_eq_true (by first | (with_reducible assumption) | assumption)
           obtain ⟨ad202, e202, hx202_0⟩ := Kd.at_string HR1_1.out x5_1 p202 q202
           cases e202
           replace hx202_0 := (HB.out.cell (World.block_lt_of_cell? w _ hx202_0)).trans hx202_0
           replace p202 := eq_true p202
           replace q202 := eq_true q202
           go_wp2
           repeat (go_quiet (fail); try go_wp2)
           go_roundg kj8
           case measure => have := HK1.out; have := HJ8.out; omega
           case rel => exact ⟨(wrap64 (x5_1 + 1)), (by first | rfl | (simp; done) | (simp [*]; done)), H', ⟨by have := HK1.out; have := HJ8.out; omega⟩, ⟨by (with_reducible repeat (first | refine bDN ?_ _ | refine bDr ?_ | refine bAl ?_ _)); exact BK199.out⟩, ⟨by (with_reducible repeat (first | refine bDN ?_ _ | refine bDr ?_ | refine bAl ?_ _)); exact BK200.out⟩, ⟨by repeat (first | (with_reducible first | exact HB.out | apply beA | apply bpN | apply bd1 | refine beS ?_ GE199.out | refine beS ?_ GE200.out) | exact HB.out)⟩⟩
          ·rw [if_neg c20] at H
           have c20b0 : ((rdOf ByteArray.empty l0_1 x5_1).toList == (rdOf ByteArray.empty l1_1 x5_1).toList) = false := beq_eq_false_iff_ne.mpr c20
           have c20b1 : ((rdOf ByteArray.empty l0_1 x5_1).toList != (rdOf ByteArray.empty l1_1 x5_1).toList) = true := bne_iff_ne.mpr c20
           obtain rfl := Option.some.inj H
           have hnb24 := NB199_200.out
           have hnc24 := NB200_199.out
           have hcz25_0 : wc.cell? ⟨gb199, 0, none⟩ = some (.int .i64 a0_0) := (bCe BK199.out 0).trans rfl
           have hcz25_1 : wc.cell? ⟨gb199, 1, none⟩ = some (.slice A0_1 l0_1.length c0_1) := (bCe BK199.out 1).trans rfl
           have hcz25_2 : wc.cell? ⟨gb199, 2, none⟩ = some (.int .i64 a0_2) := (bCe BK199.out 2).trans rfl
           have hcz25_3 : wc.cell? ⟨gb199, 3, none⟩ = some (.slice A0_3 l0_3.length c0_3) := (bCe BK199.out 3).trans rfl
           have hfz25_0 := bFz BK199.out 0
           have hfz25_1 := bFz BK199.out 1
           have hfz25_2 := bFz BK199.out 2
           have hfz25_3 := bFz BK199.out 3
           have p201 : 0 ≤ (x5_1 : Int) := of_decide_eq_true (by first | (with_reducible assumption) | assumption)
           have q201 : x5_1 < (l0_1.length : Int) := of_decide_eq_true (by first | (with_reducible assumption) | assumption)
           obtain ⟨ad201, e201, hx201_0⟩ := Kd.at_string HR0_1.out x5_1 p201 q201
           cases e201
           replace hx201_0 := (HB.out.cell (World.block_lt_of_cell? w _ hx201_0)).trans hx201_0
           replace p201 := eq_true p201
           replace q201 := eq_true q201
           have hcz26_0 : wc.cell? ⟨gb200, 0, none⟩ = some (.int .i64 a1_0) := (bCe BK200.out 0).trans rfl
           have hcz26_1 : wc.cell? ⟨gb200, 1, none⟩ = some (.slice A1_1 l1_1.length c1_1) := (bCe BK200.out 1).trans rfl
           have hcz26_2 : wc.cell? ⟨gb200, 2, none⟩ = some (.int .i64 a1_2) := (bCe BK200.out 2).trans rfl
           have hcz26_3 : wc.cell? ⟨gb200, 3, none⟩ = some (.slice A1_3 l1_3.length c1_3) := (bCe BK200.out 3).trans rfl
           have hfz26_0 := bFz BK200.out 0
           have hfz26_1 := bFz BK200.out 1
           have hfz26_2 := bFz BK200.out 2
           have hfz26_3 := bFz BK200.out 3
           have p202 : 0 ≤ (x5_1 : Int) := of_decide_eq_true (by first | (with_reducible assumption) | assumption)
           have q202 : x5_1 < (l1_1.length : Int) := of_decide_eq_true (by first | (with_reducible assumption) | assumption)
           obtain ⟨ad202, e202, hx202_0⟩ := Kd.at_string HR1_1.out x5_1 p202 q202
           cases e202
           replace hx202_0 := (HB.out.cell (World.block_lt_of_cell? w _ hx202_0)).trans hx202_0
           replace p202 := eq_true p202
           replace q202 := eq_true q202
           have p203 : 0 ≤ (x5_1 : Int) := of_decide_eq_true (by first | (with_reducible assumption) | assumption)
           have q203 : x5_1 < (l0_1.length : Int) := of_decide_eq_true (by first | (with_reducible assumption) | assumption)
           obtain ⟨ad203, e203, hx203_0⟩ := Kd.at_string HR0_1.out x5_1 p203 q203
           obtain rfl : ad201 = ad203 := (by injection e203)
           replace hx203_0 := (HB.out.cell (World.block_lt_of_cell? w _ hx203_0)).trans hx203_0
           replace p203 := eq_true p203
           replace q203 := eq_true q203
           have p204 : 0 ≤ (x5_1 : Int) := of_decide_eq_true (by first | (with_reducible assumption) | assumption)
           have q204 : x5_1 < (l1_1.length : Int) := of_decide_eq_true (by first | (with_reducible assumption) | assumption)
           obtain ⟨ad204, e204, hx204_0⟩ := Kd.at_string HR1_1.out x5_1 p204 q204
           obtain rfl : ad202 = ad204 := (by injection e204)
           replace hx204_0 := (HB.out.cell (World.block_lt_of_cell? w _ hx204_0)).trans hx204_0
           replace p204 := eq_true p204
           replace q204 := eq_true q204
           go_wp2
           repeat (go_quiet (fail); try go_wp2)
           go_ret
           exact ⟨by first | rfl | (simp [errW_none, errW_some] <;> rfl) | (simp [*, errW_none, errW_some] <;> rfl), by repeat (first | (with_reducible first | exact HB.out | apply beA | apply bpN | apply bd1 | refine beS ?_ GE199.out | refine beS ?_ GE200.out) | exact HB.out)⟩
         ·rw [if_neg c19] at H
          exact absurd H (by simp)
        ·rw [if_neg c18] at H
         exact absurd H (by simp)
       ·rw [if_neg c17] at H
        exact absurd H (by simp)
      ·replace c16 := Bool.eq_false_iff.mpr c16
       subst c16
       have H1 : (some false) = some r := by rw [if_neg (show ¬ (false = true) by decide)] at H; exact H
       clear H
       have H := H1
       clear H1
       obtain rfl := Option.some.inj H
       go_wp2
       repeat (go_quiet (fail); try go_wp2)
       go_ret
       exact ⟨by first | rfl | (simp [errW_none, errW_some] <;> rfl) | (simp [*, errW_none, errW_some] <;> rfl), by repeat (first | (with_reducible first | exact HB.out | apply beA | apply bpN | apply bd1 | refine beS ?_ GE199.out | refine beS ?_ GE200.out) | exact HB.out)⟩
 ·rw [if_neg c3] at H
  have c3b0 : (a0_0 == a1_0) = false := beq_eq_false_iff_ne.mpr c3
  have c3b1 : (a0_0 != a1_0) = true := bne_iff_ne.mpr c3
  obtain rfl := Option.some.inj H
  go_enter Try.func32, Try.ntmps32
  go_wp2_with (first | ((with_reducible refine gate_dst (N := 2) rfl ?_); (try (refine gate_guard (by rfl) ?_; dsimp only)); refine box_event ?hg (N := 2) ?hd (cs := #[.int .i64 a0_0, .slice A0_1 l0_1.length c0_1, .int .i64 a0_2, .slice A0_3 l0_3.length c0_3]) (t := 39) ?hr ?_; (case hd => rfl); (case hg => rfl); (case hr => first | (go_simp; done) | (go_simp; rfl)); intro gb199 hg w27 hbox hb; have n0_ := Z0.mk (below_step (by repeat (first | (with_reducible first | exact HB.out | apply beA | apply bpN | apply bd1) | exact HB.out)) hb); have n1_ := Z0.mk (hbox); have n2_ := Z0.mk ((by rw [hg]; exact (below_size (by repeat (first | (with_reducible first | exact HB.out | apply beA | apply bpN | apply bd1) | exact HB.out))) : w.heap.size ≤ gb199)); have n3_ := Z0.mk ((by rw [hg]; exact (below_size (by repeat (first | (with_reducible first | exact HB.out | apply beA | apply bpN | apply bd1) | exact HB.out))) : w.heap.size ≤ gb199)); clear HB; have HB := n0_; have BK199 := n1_; have GW199 := n2_; have GE199 := n3_; clear n0_ n1_ n2_ n3_; clear hb hbox hg) | ((with_reducible refine gate_dst (N := 3) rfl ?_); (try (refine gate_guard (by rfl) ?_; dsimp only)); refine box_event ?hg (N := 3) ?hd (cs := #[.int .i64 a1_0, .slice A1_1 l1_1.length c1_1, .int .i64 a1_2, .slice A1_3 l1_3.length c1_3]) (t := 39) ?hr ?_; (case hd => rfl); (case hg => rfl); (case hr => first | (go_simp; done) | (go_simp; rfl)); intro gb200 hg w28 hbox hb; have n0_ := Z0.mk (blk_below (g := gb199) (o := .cells #[.int .i64 a0_0, .slice A0_1 l0_1.length c0_1, .int .i64 a0_2, .slice A0_3 l0_3.length c0_3] 39 (0, 0)) (by (with_reducible repeat (first | refine bDN ?_ _ | refine bDr ?_ | refine bAl ?_ _)); exact BK199.out) hb); have n1_ := Z0.mk (below_step (by repeat (first | (with_reducible first | exact HB.out | apply beA | apply bpN | apply bd1 | refine beS ?_ GE199.out) | exact HB.out)) hb); have n2_ := Z0.mk (hbox); have n3_ := Z0.mk ((by rw [hg]; exact (below_size (by repeat (first | (with_reducible first | exact HB.out | apply beA | apply bpN | apply bd1 | refine beS ?_ GE199.out) | exact HB.out))) : w.heap.size ≤ gb200)); have n4_ := Z0.mk ((by rw [hg]; exact (below_size (by repeat (first | (with_reducible first | exact HB.out | apply beA | apply bpN | apply bd1 | refine beS ?_ GE199.out) | exact HB.out))) : w.heap.size ≤ gb200)); have n5_ := Z0.mk ((by rw [hg]; exact Nat.ne_of_lt (blk_lt (g := gb199) (o := .cells #[.int .i64 a0_0, .slice A0_1 l0_1.length c0_1, .int .i64 a0_2, .slice A0_3 l0_3.length c0_3] 39 (0, 0)) (by (with_reducible repeat (first | refine bDN ?_ _ | refine bDr ?_ | refine bAl ?_ _)); exact BK199.out)) : gb199 ≠ gb200)); have n6_ := Z0.mk ((by rw [hg]; exact Nat.ne_of_gt (blk_lt (g := gb199) (o := .cells #[.int .i64 a0_0, .slice A0_1 l0_1.length c0_1, .int .i64 a0_2, .slice A0_3 l0_3.length c0_3] 39 (0, 0)) (by (with_reducible repeat (first | refine bDN ?_ _ | refine bDr ?_ | refine bAl ?_ _)); exact BK199.out)) : gb200 ≠ gb199)); clear BK199; clear HB; have BK199 := n0_; have HB := n1_; have BK200 := n2_; have GW200 := n3_; have GE200 := n4_; have NB199_200 := n5_; have NB200_199 := n6_; clear n0_ n1_ n2_ n3_ n4_ n5_ n6_; clear hb hbox hg; have hnb29 := NB199_200.out; have hnc29 := NB200_199.out; have hcz30_0 : w28.cell? ⟨gb199, 0, none⟩ = some (.int .i64 a0_0) := (bCe BK199.out 0).trans rfl; have hcz30_1 : w28.cell? ⟨gb199, 1, none⟩ = some (.slice A0_1 l0_1.length c0_1) := (bCe BK199.out 1).trans rfl; have hcz30_2 : w28.cell? ⟨gb199, 2, none⟩ = some (.int .i64 a0_2) := (bCe BK199.out 2).trans rfl; have hcz30_3 : w28.cell? ⟨gb199, 3, none⟩ = some (.slice A0_3 l0_3.length c0_3) := (bCe BK199.out 3).trans rfl; have hfz30_0 := bFz BK199.out 0; have hfz30_1 := bFz BK199.out 1; have hfz30_2 := bFz BK199.out 2; have hfz30_3 := bFz BK199.out 3; have hcz31_0 : w28.cell? ⟨gb200, 0, none⟩ = some (.int .i64 a1_0) := (bCe BK200.out 0).trans rfl; have hcz31_1 : w28.cell? ⟨gb200, 1, none⟩ = some (.slice A1_1 l1_1.length c1_1) := (bCe BK200.out 1).trans rfl; have hcz31_2 : w28.cell? ⟨gb200, 2, none⟩ = some (.int .i64 a1_2) := (bCe BK200.out 2).trans rfl; have hcz31_3 : w28.cell? ⟨gb200, 3, none⟩ = some (.slice A1_3 l1_3.length c1_3) := (bCe BK200.out 3).trans rfl; have hfz31_0 := bFz BK200.out 0; have hfz31_1 := bFz BK200.out 1; have hfz31_2 := bFz BK200.out 2; have hfz31_3 := bFz BK200.out 3))
  repeat (go_quiet (first | ((with_reducible refine gate_dst (N := 2) rfl ?_); (try (refine gate_guard (by rfl) ?_; dsimp only)); refine box_event ?hg (N := 2) ?hd (cs := #[.int .i64 a0_0, .slice A0_1 l0_1.length c0_1, .int .i64 a0_2, .slice A0_3 l0_3.length c0_3]) (t := 39) ?hr ?_; (case hd => rfl); (case hg => rfl); (case hr => first | (go_simp; done) | (go_simp; rfl)); intro gb199 hg w27 hbox hb; have n0_ := Z0.mk (below_step (by repeat (first | (with_reducible first | exact HB.out | apply beA | apply bpN | apply bd1) | exact HB.out)) hb); have n1_ := Z0.mk (hbox); have n2_ := Z0.mk ((by rw [hg]; exact (below_size (by repeat (first | (with_reducible first | exact HB.out | apply beA | apply bpN | apply bd1) | exact HB.out))) : w.heap.size ≤ gb199)); have n3_ := Z0.mk ((by rw [hg]; exact (below_size (by repeat (first | (with_reducible first | exact HB.out | apply beA | apply bpN | apply bd1) | exact HB.out))) : w.heap.size ≤ gb199)); clear HB; have HB := n0_; have BK199 := n1_; have GW199 := n2_; have GE199 := n3_; clear n0_ n1_ n2_ n3_; clear hb hbox hg) | ((with_reducible refine gate_dst (N := 3) rfl ?_); (try (refine gate_guard (by rfl) ?_; dsimp only)); refine box_event ?hg (N := 3) ?hd (cs := #[.int .i64 a1_0, .slice A1_1 l1_1.length c1_1, .int .i64 a1_2, .slice A1_3 l1_3.length c1_3]) (t := 39) ?hr ?_; (case hd => rfl); (case hg => rfl); (case hr => first | (go_simp; done) | (go_simp; rfl)); intro gb200 hg w28 hbox hb; have n0_ := Z0.mk (blk_below (g := gb199) (o := .cells #[.int .i64 a0_0, .slice A0_1 l0_1.length c0_1, .int .i64 a0_2, .slice A0_3 l0_3.length c0_3] 39 (0, 0)) (by (with_reducible repeat (first | refine bDN ?_ _ | refine bDr ?_ | refine bAl ?_ _)); exact BK199.out) hb); have n1_ := Z0.mk (below_step (by repeat (first | (with_reducible first | exact HB.out | apply beA | apply bpN | apply bd1 | refine beS ?_ GE199.out) | exact HB.out)) hb); have n2_ := Z0.mk (hbox); have n3_ := Z0.mk ((by rw [hg]; exact (below_size (by repeat (first | (with_reducible first | exact HB.out | apply beA | apply bpN | apply bd1 | refine beS ?_ GE199.out) | exact HB.out))) : w.heap.size ≤ gb200)); have n4_ := Z0.mk ((by rw [hg]; exact (below_size (by repeat (first | (with_reducible first | exact HB.out | apply beA | apply bpN | apply bd1 | refine beS ?_ GE199.out) | exact HB.out))) : w.heap.size ≤ gb200)); have n5_ := Z0.mk ((by rw [hg]; exact Nat.ne_of_lt (blk_lt (g := gb199) (o := .cells #[.int .i64 a0_0, .slice A0_1 l0_1.length c0_1, .int .i64 a0_2, .slice A0_3 l0_3.length c0_3] 39 (0, 0)) (by (with_reducible repeat (first | refine bDN ?_ _ | refine bDr ?_ | refine bAl ?_ _)); exact BK199.out)) : gb199 ≠ gb200)); have n6_ := Z0.mk ((by rw [hg]; exact Nat.ne_of_gt (blk_lt (g := gb199) (o := .cells #[.int .i64 a0_0, .slice A0_1 l0_1.length c0_1, .int .i64 a0_2, .slice A0_3 l0_3.length c0_3] 39 (0, 0)) (by (with_reducible repeat (first | refine bDN ?_ _ | refine bDr ?_ | refine bAl ?_ _)); exact BK199.out)) : gb200 ≠ gb199)); clear BK199; clear HB; have BK199 := n0_; have HB := n1_; have BK200 := n2_; have GW200 := n3_; have GE200 := n4_; have NB199_200 := n5_; have NB200_199 := n6_; clear n0_ n1_ n2_ n3_ n4_ n5_ n6_; clear hb hbox hg; have hnb29 := NB199_200.out; have hnc29 := NB200_199.out; have hcz30_0 : w28.cell? ⟨gb199, 0, none⟩ = some (.int .i64 a0_0) := (bCe BK199.out 0).trans rfl; have hcz30_1 : w28.cell? ⟨gb199, 1, none⟩ = some (.slice A0_1 l0_1.length c0_1) := (bCe BK199.out 1).trans rfl; have hcz30_2 : w28.cell? ⟨gb199, 2, none⟩ = some (.int .i64 a0_2) := (bCe BK199.out 2).trans rfl; have hcz30_3 : w28.cell? ⟨gb199, 3, none⟩ = some (.slice A0_3 l0_3.length c0_3) := (bCe BK199.out 3).trans rfl; have hfz30_0 := bFz BK199.out 0; have hfz30_1 := bFz BK199.out 1; have hfz30_2 := bFz BK199.out 2; have hfz30_3 := bFz BK199.out 3; have hcz31_0 : w28.cell? ⟨gb200, 0, none⟩ = some (.int .i64 a1_0) := (bCe BK200.out 0).trans rfl; have hcz31_1 : w28.cell? ⟨gb200, 1, none⟩ = some (.slice A1_1 l1_1.length c1_1) := (bCe BK200.out 1).trans rfl; have hcz31_2 : w28.cell? ⟨gb200, 2, none⟩ = some (.int .i64 a1_2) := (bCe BK200.out 2).trans rfl; have hcz31_3 : w28.cell? ⟨gb200, 3, none⟩ = some (.slice A1_3 l1_3.length c1_3) := (bCe BK200.out 3).trans rfl; have hfz31_0 := bFz BK200.out 0; have hfz31_1 := bFz BK200.out 1; have hfz31_2 := bFz BK200.out 2; have hfz31_3 := bFz BK200.out 3)); try go_wp2_with (first | ((with_reducible refine gate_dst (N := 2) rfl ?_); (try (refine gate_guard (by rfl) ?_; dsimp only)); refine box_event ?hg (N := 2) ?hd (cs := #[.int .i64 a0_0, .slice A0_1 l0_1.length c0_1, .int .i64 a0_2, .slice A0_3 l0_3.length c0_3]) (t := 39) ?hr ?_; (case hd => rfl); (case hg => rfl); (case hr => first | (go_simp; done) | (go_simp; rfl)); intro gb199 hg w27 hbox hb; have n0_ := Z0.mk (below_step (by repeat (first | (with_reducible first | exact HB.out | apply beA | apply bpN | apply bd1) | exact HB.out)) hb); have n1_ := Z0.mk (hbox); have n2_ := Z0.mk ((by rw [hg]; exact (below_size (by repeat (first | (with_reducible first | exact HB.out | apply beA | apply bpN | apply bd1) | exact HB.out))) : w.heap.size ≤ gb199)); have n3_ := Z0.mk ((by rw [hg]; exact (below_size (by repeat (first | (with_reducible first | exact HB.out | apply beA | apply bpN | apply bd1) | exact HB.out))) : w.heap.size ≤ gb199)); clear HB; have HB := n0_; have BK199 := n1_; have GW199 := n2_; have GE199 := n3_; clear n0_ n1_ n2_ n3_; clear hb hbox hg) | ((with_reducible refine gate_dst (N := 3) rfl ?_); (try (refine gate_guard (by rfl) ?_; dsimp only)); refine box_event ?hg (N := 3) ?hd (cs := #[.int .i64 a1_0, .slice A1_1 l1_1.length c1_1, .int .i64 a1_2, .slice A1_3 l1_3.length c1_3]) (t := 39) ?hr ?_; (case hd => rfl); (case hg => rfl); (case hr => first | (go_simp; done) | (go_simp; rfl)); intro gb200 hg w28 hbox hb; have n0_ := Z0.mk (blk_below (g := gb199) (o := .cells #[.int .i64 a0_0, .slice A0_1 l0_1.length c0_1, .int .i64 a0_2, .slice A0_3 l0_3.length c0_3] 39 (0, 0)) (by (with_reducible repeat (first | refine bDN ?_ _ | refine bDr ?_ | refine bAl ?_ _)); exact BK199.out) hb); have n1_ := Z0.mk (below_step (by repeat (first | (with_reducible first | exact HB.out | apply beA | apply bpN | apply bd1 | refine beS ?_ GE199.out) | exact HB.out)) hb); have n2_ := Z0.mk (hbox); have n3_ := Z0.mk ((by rw [hg]; exact (below_size (by repeat (first | (with_reducible first | exact HB.out | apply beA | apply bpN | apply bd1 | refine beS ?_ GE199.out) | exact HB.out))) : w.heap.size ≤ gb200)); have n4_ := Z0.mk ((by rw [hg]; exact (below_size (by repeat (first | (with_reducible first | exact HB.out | apply beA | apply bpN | apply bd1 | refine beS ?_ GE199.out) | exact HB.out))) : w.heap.size ≤ gb200)); have n5_ := Z0.mk ((by rw [hg]; exact Nat.ne_of_lt (blk_lt (g := gb199) (o := .cells #[.int .i64 a0_0, .slice A0_1 l0_1.length c0_1, .int .i64 a0_2, .slice A0_3 l0_3.length c0_3] 39 (0, 0)) (by (with_reducible repeat (first | refine bDN ?_ _ | refine bDr ?_ | refine bAl ?_ _)); exact BK199.out)) : gb199 ≠ gb200)); have n6_ := Z0.mk ((by rw [hg]; exact Nat.ne_of_gt (blk_lt (g := gb199) (o := .cells #[.int .i64 a0_0, .slice A0_1 l0_1.length c0_1, .int .i64 a0_2, .slice A0_3 l0_3.length c0_3] 39 (0, 0)) (by (with_reducible repeat (first | refine bDN ?_ _ | refine bDr ?_ | refine bAl ?_ _)); exact BK199.out)) : gb200 ≠ gb199)); clear BK199; clear HB; have BK199 := n0_; have HB := n1_; have BK200 := n2_; have GW200 := n3_; have GE200 := n4_; have NB199_200 := n5_; have NB200_199 := n6_; clear n0_ n1_ n2_ n3_ n4_ n5_ n6_; clear hb hbox hg; have hnb29 := NB199_200.out; have hnc29 := NB200_199.out; have hcz30_0 : w28.cell? ⟨gb199, 0, none⟩ = some (.int .i64 a0_0) := (bCe BK199.out 0).trans rfl; have hcz30_1 : w28.cell? ⟨gb199, 1, none⟩ = some (.slice A0_1 l0_1.length c0_1) := (bCe BK199.out 1).trans rfl; have hcz30_2 : w28.cell? ⟨gb199, 2, none⟩ = some (.int .i64 a0_2) := (bCe BK199.out 2).trans rfl; have hcz30_3 : w28.cell? ⟨gb199, 3, none⟩ = some (.slice A0_3 l0_3.length c0_3) := (bCe BK199.out 3).trans rfl; have hfz30_0 := bFz BK199.out 0; have hfz30_1 := bFz BK199.out 1; have hfz30_2 := bFz BK199.out 2; have hfz30_3 := bFz BK199.out 3; have hcz31_0 : w28.cell? ⟨gb200, 0, none⟩ = some (.int .i64 a1_0) := (bCe BK200.out 0).trans rfl; have hcz31_1 : w28.cell? ⟨gb200, 1, none⟩ = some (.slice A1_1 l1_1.length c1_1) := (bCe BK200.out 1).trans rfl; have hcz31_2 : w28.cell? ⟨gb200, 2, none⟩ = some (.int .i64 a1_2) := (bCe BK200.out 2).trans rfl; have hcz31_3 : w28.cell? ⟨gb200, 3, none⟩ = some (.slice A1_3 l1_3.length c1_3) := (bCe BK200.out 3).trans rfl; have hfz31_0 := bFz BK200.out 0; have hfz31_1 := bFz BK200.out 1; have hfz31_2 := bFz BK200.out 2; have hfz31_3 := bFz BK200.out 3)))
  go_ret
  exact ⟨by first | rfl | (simp [errW_none, errW_some] <;> rfl) | (simp [*, errW_none, errW_some] <;> rfl), by repeat (first | (with_reducible first | exact HB.out | apply beA | apply bpN | apply bd1 | refine beS ?_ GE199.out | refine beS ?_ GE200.out) | exact HB.out)⟩
end Go.Proofs.Ytdeeffahfkndkaa.P
namespace Go.Proofs.Ytdeeffahfkndkaa.P
open Go.RowKit Go.Proofs.YtdeeffahfkndkaaW.PrintWords Go.Proofs.YtdeeffahfkndkaaW.PrintLast Go.Proofs.YtdeeffahfkndkaaW.PrintMore
attribute [local go_sem] max2_int min2_int max_two min_two max_three min_three max_four min_four
set_option linter.unusedVariables false
set_option linter.unusedSimpArgs false
def columbaryref13_Sorted.l0 : Nat → List (S39) → Int → Option (Bool)
 | 0, _, _ => none
 | k + 1, x0, x3 => if x3 < (x0.length : Int) then (if 0 ≤ (wrap64 (x3 - 1)) then (if (wrap64 (x3 - 1)) < (x0.length : Int) then (if 0 ≤ x3 then ((columbaryref13_Less.f k ((rd_T39 x0 (wrap64 (x3 - 1))).f0) ((rd_T39 x0 (wrap64 (x3 - 1))).f1) ((rd_T39 x0 (wrap64 (x3 - 1))).f2) ((rd_T39 x0 (wrap64 (x3 - 1))).f3) ((rd_T39 x0 x3).f0) ((rd_T39 x0 x3).f1) ((rd_T39 x0 x3).f2) ((rd_T39 x0 x3).f3)).bind fun t207 => (if t207 = true then (columbaryref13_Sorted.l0 k x0 (wrap64 (x3 + 1))) else (some false))) else (none)) else (none)) else (none)) else (some true)
def columbaryref13_Sorted.f (k : Nat) (l0 : List (S39)) : Option (Bool) := columbaryref13_Sorted.l0 k l0 1
def columbaryref13_Sorted.T4 : Bool × List (List Nat × List Nat) := (true, [([], []), ([], []), ([1], [1]), ([0, 2], [0, 2]), ([3], [3]), ([], []), ([], []), ([5, 6], [5, 6]), ([7], [7]), ([4, 8], [4, 8]), ([9, 9, 0, 1, 2, 3, 4, 5, 6, 7, 8, 9], [9])])
def columbaryref13_Sorted.B4 : List Nat := [0, 0, 2, 7, 15, 0, 0, 96, 224, 511, 1023]
theorem columbaryref13_Sorted.tab4 : rtab .any (opsOf Try.f14 4) = columbaryref13_Sorted.T4 := by kernel_rfl
theorem columbaryref13_Sorted.bits4 : waitsOk columbaryref13_Sorted.T4.2 columbaryref13_Sorted.B4 = true := by kernel_rfl
set_option maxHeartbeats 8000000 in
set_option maxRecDepth 100000 in
theorem columbaryref13_Sorted.calls (k : Nat) (A0 : Option Addr) (c0 : Nat) (l0 : List (S39)) (r : Bool) (w : World) (hr0 : Kd.C k39 w A0 l0.length l0) (hc0 : l0.length ≤ c0) (h : columbaryref13_Sorted.f k l0 = some r) :
  Calls Try.prog 14 #[.slice A0 l0.length c0] w fun e w' => e = .returned (.bool r) ∧ Below w.heap.size w w' := by
 have hu39 := Try.underlying39
 have HR0 := Z0.mk hr0
 have HC0 := Z0.mk hc0
 clear hr0 hc0
 have HB := Z0.mk (Below.refl w.heap.size w)
 have H : (columbaryref13_Sorted.l0 k l0 1) = some r := h
 clear h
 have H' := Z0.mk H
 clear H
 go_enter Try.func14, Try.ntmps14
 go_wp2
 go_loopg [3] k (fun kq v3 w' => ∃ (x3_1 : Int), v3 = .int .i64 x3_1 ∧ Z0 (columbaryref13_Sorted.l0 kq l0 x3_1 = some r) ∧ Z0 (kq ≤ k) ∧ Z0 (Below w.heap.size w w'))
 case atStart => exact ⟨(1), (by first | rfl | (simp; done) | (simp [*]; done)), H', ⟨Nat.le_refl _⟩, ⟨by repeat (first | (with_reducible first | exact HB.out | apply beA | apply bpN | apply bd1) | exact HB.out)⟩⟩
 case round =>
  clear H'
  try clear c1
  obtain ⟨x3_1, rfl, HA, HK1, HB⟩ := hrel
  cases gk with
  | zero => exact absurd HA.out (by simp [columbaryref13_Sorted.l0])
  | succ k1 =>
   have H := HA.out
   clear HA
   simp only [columbaryref13_Sorted.l0] at H
   by_cases c2 : x3_1 < (l0.length : Int)
   ·rw [if_pos c2] at H
    have c2b0 : decide (x3_1 < (l0.length : Int)) = true := decide_eq_true c2
    clear c2
    obtain ⟨ji3, hji3⟩ : ∃ j_ : Int, (wrap64 (x3_1 - 1)) = j_ := ⟨_, rfl⟩
    replace H : (if 0 ≤ (ji3) then (if (ji3) < (l0.length : Int) then (if 0 ≤ x3_1 then ((columbaryref13_Less.f k1 ((rd_T39 l0 (ji3)).f0) ((rd_T39 l0 (ji3)).f1) ((rd_T39 l0 (ji3)).f2) ((rd_T39 l0 (ji3)).f3) ((rd_T39 l0 x3_1).f0) ((rd_T39 l0 x3_1).f1) ((rd_T39 l0 x3_1).f2) ((rd_T39 l0 x3_1).f3)).bind fun t207 => (if t207 = true then (columbaryref13_Sorted.l0 k1 l0 (wrap64 (x3_1 + 1))) else (some false))) else (none)) else (none)) else (none)) = some r := by first | (rw [hji3] at H; exact H) | (simp only [hji3] at H ⊢; exact H)
    have hji3w : (IntKind.i64.wrap (x3_1 - 1)) = ji3 := (i64_w _).trans hji3
    by_cases c4 : 0 ≤ (ji3)
    ·rw [if_pos c4] at H
     have c4b0 : decide (0 ≤ (ji3)) = true := decide_eq_true c4
     clear c4
     by_cases c5 : (ji3) < (l0.length : Int)
     ·rw [if_pos c5] at H
      have c5b0 : decide ((ji3) < (l0.length : Int)) = true := decide_eq_true c5
      clear c5
      by_cases c6 : 0 ≤ x3_1
      ·rw [if_pos c6] at H
       have c6b0 : decide (0 ≤ x3_1) = true := decide_eq_true c6
       clear c6
       replace H := Option.bind_eq_some_iff.mp H
       obtain ⟨t207, A70, H⟩ := H
       replace H : (if t207 = true then (columbaryref13_Sorted.l0 k1 l0 (wrap64 (x3_1 + 1))) else (some false)) = some r := H
       have A7 := Z0.mk A70
       clear A70
       by_cases c8 : t207 = true
       ·subst c8
        have H1 : (columbaryref13_Sorted.l0 k1 l0 (wrap64 (x3_1 + 1))) = some r := by rw [if_pos rfl] at H; exact H
        clear H
        have H := H1
        clear H1
        have H' := Z0.mk H
        clear H
        try go_wp2
        have n0_ := Z0.mk (bd1 HB.out)
        clear HB
        have HB := n0_
        clear n0_
        have p205 : 0 ≤ ((ji3) : Int) := of_decide_eq_true (by first | (with_reducible assumption) | assumption)
        have q205 : (ji3) < (l0.length : Int) := of_decide_eq_true (by first | (with_reducible assumption) | assumption)
        obtain ⟨ad205, A205_1, c205_1, A205_3, c205_3, e205, hx205_0, hx205_1, hx205_2, hx205_3, hl205_1, hi205_1, hl205_3, hi205_3⟩ := at_T39 HR0.out (ji3) p205 q205
        have hw205_3 := hx205_3
        have hw205_2 := hx205_2
        have hw205_1 := hx205_1
        have hw205_0 := hx205_0
        cases e205
        replace hx205_0 := (HB.out.cell (World.block_lt_of_cell? w _ hx205_0)).trans hx205_0
        replace hx205_1 := (HB.out.cell (World.block_lt_of_cell? w _ hx205_1)).trans hx205_1
        replace hx205_2 := (HB.out.cell (World.block_lt_of_cell? w _ hx205_2)).trans hx205_2
        replace hx205_3 := (HB.out.cell (World.block_lt_of_cell? w _ hx205_3)).trans hx205_3
        have HR205_1 := Z0.mk hi205_1
        have HC205_1 := Z0.mk hl205_1
        clear hi205_1 hl205_1
        have HR205_3 := Z0.mk hi205_3
        have HC205_3 := Z0.mk hl205_3
        clear hi205_3 hl205_3
        replace p205 := eq_true p205
        replace q205 := eq_true q205
        have p206 : 0 ≤ (x3_1 : Int) := of_decide_eq_true (by first | (with_reducible assumption) | assumption)
        have q206 : x3_1 < (l0.length : Int) := of_decide_eq_true (by first | (with_reducible assumption) | assumption)
        obtain ⟨ad206, A206_1, c206_1, A206_3, c206_3, e206, hx206_0, hx206_1, hx206_2, hx206_3, hl206_1, hi206_1, hl206_3, hi206_3⟩ := at_T39 HR0.out x3_1 p206 q206
        have hw206_3 := hx206_3
        have hw206_2 := hx206_2
        have hw206_1 := hx206_1
        have hw206_0 := hx206_0
        obtain rfl : ad205 = ad206 := (by injection e206)
        replace hx206_0 := (HB.out.cell (World.block_lt_of_cell? w _ hx206_0)).trans hx206_0
        replace hx206_1 := (HB.out.cell (World.block_lt_of_cell? w _ hx206_1)).trans hx206_1
        replace hx206_2 := (HB.out.cell (World.block_lt_of_cell? w _ hx206_2)).trans hx206_2
        replace hx206_3 := (HB.out.cell (World.block_lt_of_cell? w _ hx206_3)).trans hx206_3
        have HR206_1 := Z0.mk hi206_1
        have HC206_1 := Z0.mk hl206_1
        clear hi206_1 hl206_1
        have HR206_3 := Z0.mk hi206_3
        have HC206_3 := Z0.mk hl206_3
        clear hi206_3 hl206_3
        replace p206 := eq_true p206
        replace q206 := eq_true q206
        refine start_ (n := 11) (S := fun w' => w'.cell? (ad205.add (((ji3)).toNat * 4)) = some (.int .i64 ((rd_T39 l0 (ji3)).f0)) ∧ w'.cell? ⟨(ad205.add (((ji3)).toNat * 4)).block, (ad205.add (((ji3)).toNat * 4)).off + 1, none⟩ = some (.slice A205_1 ((rd_T39 l0 (ji3)).f1).length c205_1) ∧ w'.cell? ⟨(ad205.add (((ji3)).toNat * 4)).block, (ad205.add (((ji3)).toNat * 4)).off + 2, none⟩ = some (.int .i64 ((rd_T39 l0 (ji3)).f2)) ∧ w'.cell? ⟨(ad205.add (((ji3)).toNat * 4)).block, (ad205.add (((ji3)).toNat * 4)).off + 3, none⟩ = some (.slice A205_3 ((rd_T39 l0 (ji3)).f3).length c205_3) ∧ w'.cell? (ad205.add ((x3_1).toNat * 4)) = some (.int .i64 ((rd_T39 l0 x3_1).f0)) ∧ w'.cell? ⟨(ad205.add ((x3_1).toNat * 4)).block, (ad205.add ((x3_1).toNat * 4)).off + 1, none⟩ = some (.slice A206_1 ((rd_T39 l0 x3_1).f1).length c206_1) ∧ w'.cell? ⟨(ad205.add ((x3_1).toNat * 4)).block, (ad205.add ((x3_1).toNat * 4)).off + 2, none⟩ = some (.int .i64 ((rd_T39 l0 x3_1).f2)) ∧ w'.cell? ⟨(ad205.add ((x3_1).toNat * 4)).block, (ad205.add ((x3_1).toNat * 4)).off + 3, none⟩ = some (.slice A206_3 ((rd_T39 l0 x3_1).f3).length c206_3)) (ds := []) #[false, false, false, false, false, false, false, false, false, false, false] (by kernel_rfl) rfl rfl ⟨((HB.out.cell (World.block_lt_of_cell? w _ hw205_0)).trans hw205_0), ((HB.out.cell (World.block_lt_of_cell? w _ hw205_1)).trans hw205_1), ((HB.out.cell (World.block_lt_of_cell? w _ hw205_2)).trans hw205_2), ((HB.out.cell (World.block_lt_of_cell? w _ hw205_3)).trans hw205_3), ((HB.out.cell (World.block_lt_of_cell? w _ hw206_0)).trans hw206_0), ((HB.out.cell (World.block_lt_of_cell? w _ hw206_1)).trans hw206_1), ((HB.out.cell (World.block_lt_of_cell? w _ hw206_2)).trans hw206_2), ((HB.out.cell (World.block_lt_of_cell? w _ hw206_3)).trans hw206_3)⟩ (fun hHeld => ?_); refine with_tabW columbaryref13_Sorted.tab4 columbaryref13_Sorted.bits4 (fun HT_ HW_ => ?_)
        generalize wr.drew = w9 at HB HR205_1 HR205_3 HR206_1 HR206_3 hx205_0 hx205_1 hx205_2 hx205_3 hx206_0 hx206_1 hx206_2 hx206_3 hHeld ⊢
        refine pure_ (i := 0) (N := some 11) (v := ?_) (a' := ?_) #[true, false, false, false, false, false, false, false, false, false, false] rfl rfl (any_of HT_.out (by kernel_rfl)) (fun _ _ _ h => h) (Or.inl ⟨by rfl, ?_⟩) ?_ ?_
        rotate_left
        ·intro w'
         go_simp
         with_reducible rfl
        rotate_left
        ·simp only [Act.put, qA, qB, qC, i64_w, i32_w]
         rfl
        refine pure_ (i := 1) (N := some 12) (v := ?_) (a' := ?_) #[true, true, false, false, false, false, false, false, false, false, false] rfl rfl (any_of HT_.out (by kernel_rfl)) (fun _ _ _ h => h) (Or.inl ⟨by rfl, ?_⟩) ?_ ?_
        rotate_left
        ·intro w'
         go_simp
         with_reducible rfl
        rotate_left
        ·simp only [Act.put, qA, qB, qC, i64_w, i32_w]
         rfl
        refine pure_ (i := 2) (N := some 13) (v := ?_) (a' := ?_) #[true, true, true, false, false, false, false, false, false, false, false] rfl rfl (any_of HT_.out (by kernel_rfl)) (fun _ _ _ h => h) (Or.inl ⟨by rfl, ?_⟩) ?_ ?_
        rotate_left
        ·intro w'
         go_simp
         with_reducible rfl
        rotate_left
        ·simp only [Act.put, qA, qB, qC, i64_w, i32_w]
         rfl
        refine pure_ (i := 3) (N := some 14) (v := ?_) (a' := ?_) #[true, true, true, true, false, false, false, false, false, false, false] rfl rfl (any_of HT_.out (by kernel_rfl)) (fun _ _ _ h => h) (Or.inl ⟨by rfl, ?_⟩) ?_ ?_
        rotate_left
        ·intro w'
         go_simp
         with_reducible rfl
        rotate_left
        ·simp only [Act.put, qA, qB, qC, i64_w, i32_w]
         rfl
        refine pure_ (i := 5) (N := some 16) (v := ?_) (a' := ?_) #[true, true, true, true, false, true, false, false, false, false, false] rfl rfl (any_of HT_.out (by kernel_rfl)) (fun _ _ _ h => h) (Or.inl ⟨by rfl, ?_⟩) ?_ ?_
        rotate_left
        ·intro w'
         go_simp
         with_reducible rfl
        rotate_left
        ·simp only [Act.put, qA, qB, qC, i64_w, i32_w]
         rfl
        refine pure_ (i := 6) (N := some 17) (v := ?_) (a' := ?_) #[true, true, true, true, false, true, true, false, false, false, false] rfl rfl (any_of HT_.out (by kernel_rfl)) (fun _ _ _ h => h) (Or.inl ⟨by rfl, ?_⟩) ?_ ?_
        rotate_left
        ·intro w'
         go_simp
         with_reducible rfl
        rotate_left
        ·simp only [Act.put, qA, qB, qC, i64_w, i32_w]
         rfl
        refine pure_ (i := 7) (N := some 18) (v := ?_) (a' := ?_) #[true, true, true, true, false, true, true, true, false, false, false] rfl rfl (any_of HT_.out (by kernel_rfl)) (fun _ _ _ h => h) (Or.inl ⟨by rfl, ?_⟩) ?_ ?_
        rotate_left
        ·intro w'
         go_simp
         with_reducible rfl
        rotate_left
        ·simp only [Act.put, qA, qB, qC, i64_w, i32_w]
         rfl
        refine take_ (i := 4) (N := some 15) (v := ?_) (a' := ?_) #[true, true, true, true, true, true, true, true, false, false, false] rfl rfl (take_ofW HT_.out HW_.out (by kernel_rfl)) (fun _ _ _ h => h) (Or.inl ⟨by rfl, ?_⟩) hHeld ?_ ?_
        rotate_left
        ·rintro w' ⟨s0, s1, s2, s3, s4, s5, s6, s7⟩
         go_simp
         with_reducible rfl
        rotate_left
        ·simp only [Act.put, qA, qB, qC, i64_w, i32_w]
         rfl
        refine take_ (i := 8) (N := some 19) (v := ?_) (a' := ?_) #[true, true, true, true, true, true, true, true, true, false, false] rfl rfl (take_ofW HT_.out HW_.out (by kernel_rfl)) (fun _ _ _ h => h) (Or.inl ⟨by rfl, ?_⟩) hHeld ?_ ?_
        rotate_left
        ·rintro w' ⟨s0, s1, s2, s3, s4, s5, s6, s7⟩
         go_simp
         with_reducible rfl
        rotate_left
        ·simp only [Act.put, qA, qB, qC, i64_w, i32_w]
         rfl
        refine one_ (i := 9) (N := some 20) #[true, true, true, true, true, true, true, true, true, true, false] rfl rfl (one_of HT_.out (by kernel_rfl)) (by decide) (fun K hK => ?_)
        refine goes_ Try.func32 (by kernel_rfl) rfl #[.agg #[.int .i64 ((rd_T39 l0 (ji3)).f0), .slice A205_1 ((rd_T39 l0 (ji3)).f1).length c205_1, .int .i64 ((rd_T39 l0 (ji3)).f2), .slice A205_3 ((rd_T39 l0 (ji3)).f3).length c205_3], .agg #[.int .i64 ((rd_T39 l0 x3_1).f0), .slice A206_1 ((rd_T39 l0 x3_1).f1).length c206_1, .int .i64 ((rd_T39 l0 x3_1).f2), .slice A206_3 ((rd_T39 l0 x3_1).f3).length c206_3]] (by rfl) rfl rfl (by (try simp only [List.map_toArray, List.map_cons, List.map_nil]); first | done | (simp only [hji3]; rfl) | rfl | (simp only [List.length_drop, List.length_take]; rfl)) ?_
        with_reducible refine (columbaryref13_Less.calls k1 ((rd_T39 l0 (ji3)).f0) _ _ ((rd_T39 l0 (ji3)).f1) ((rd_T39 l0 (ji3)).f2) _ _ ((rd_T39 l0 (ji3)).f3) ((rd_T39 l0 x3_1).f0) _ _ ((rd_T39 l0 x3_1).f1) ((rd_T39 l0 x3_1).f2) _ _ ((rd_T39 l0 x3_1).f3) true _ ?side1 ?side2 ?side3 ?side4 ?side5 ?side6 ?side7 ?side8 A7.out).mono ?_
        (case side1 => repeat (first | exact (Kd.C_below HR205_1.out HB.out) | (with_reducible refine Kd.C_alloc ?_ _) | (with_reducible refine Kd.C_drewN ?_ _) | (with_reducible refine Kd.C_drew ?_)))
        (case side2 => exact HC205_1.out)
        (case side3 => repeat (first | exact (Kd.C_below HR205_3.out HB.out) | (with_reducible refine Kd.C_alloc ?_ _) | (with_reducible refine Kd.C_drewN ?_ _) | (with_reducible refine Kd.C_drew ?_)))
        (case side4 => exact HC205_3.out)
        (case side5 => repeat (first | exact (Kd.C_below HR206_1.out HB.out) | (with_reducible refine Kd.C_alloc ?_ _) | (with_reducible refine Kd.C_drewN ?_ _) | (with_reducible refine Kd.C_drew ?_)))
        (case side6 => exact HC206_1.out)
        (case side7 => repeat (first | exact (Kd.C_below HR206_3.out HB.out) | (with_reducible refine Kd.C_alloc ?_ _) | (with_reducible refine Kd.C_drewN ?_ _) | (with_reducible refine Kd.C_drew ?_)))
        (case side8 => exact HC206_3.out)
        rintro e w10 ⟨rfl, hb⟩
        refine ⟨_, rfl, ?_⟩
        have n0_ := Z0.mk (below_step (by repeat (first | (with_reducible first | exact HB.out | apply beA | apply bpN | apply bd1) | exact HB.out)) hb)
        clear HB
        have HB := n0_
        clear n0_
        (try clear hb)
        (try clear hb2)
        (try clear hk)
        (try clear hi)
        refine hK.out _ _ ⟨((HB.out.cell (World.block_lt_of_cell? w _ hw205_0)).trans hw205_0), ((HB.out.cell (World.block_lt_of_cell? w _ hw205_1)).trans hw205_1), ((HB.out.cell (World.block_lt_of_cell? w _ hw205_2)).trans hw205_2), ((HB.out.cell (World.block_lt_of_cell? w _ hw205_3)).trans hw205_3), ((HB.out.cell (World.block_lt_of_cell? w _ hw206_0)).trans hw206_0), ((HB.out.cell (World.block_lt_of_cell? w _ hw206_1)).trans hw206_1), ((HB.out.cell (World.block_lt_of_cell? w _ hw206_2)).trans hw206_2), ((HB.out.cell (World.block_lt_of_cell? w _ hw206_3)).trans hw206_3)⟩ (fun hHeld => ?_)
        clear hK K
        refine norm_ (a' := ?_) ?_ ?_
        rotate_left
        ·show Act.put _ (some 20) _ = _
         simp only [Act.put, qA, qB, qC, i64_w, i32_w]
         rfl
        refine pure_ (i := 10) (N := some 4) (v := ?_) (a' := ?_) #[true, true, true, true, true, true, true, true, true, true, true] rfl rfl (any_of HT_.out (by kernel_rfl)) (fun _ _ _ h => h) (Or.inl ⟨by rfl, ?_⟩) ?_ ?_
        rotate_left
        ·intro w'
         go_simp
         with_reducible rfl
        rotate_left
        ·simp only [Act.put, qA, qB, qC, i64_w, i32_w]
         rfl
        refine done_ (done_of HT_.out (by kernel_rfl)) ?_
        try go_wp2
        go_roundg k1
        case measure => have := HK1.out; omega
        case rel => exact ⟨(wrap64 (x3_1 + 1)), (by first | rfl | (simp; done) | (simp [*]; done)), H', ⟨by have := HK1.out; omega⟩, ⟨by repeat (first | (with_reducible first | exact HB.out | apply beA | apply bpN | apply bd1) | exact HB.out)⟩⟩
       ·replace c8 := Bool.eq_false_iff.mpr c8
        subst c8
        have H1 : (some false) = some r := by rw [if_neg (show ¬ (false = true) by decide)] at H; exact H
        clear H
        have H := H1
        clear H1
        obtain rfl := Option.some.inj H
        try go_wp2
        have n0_ := Z0.mk (bd1 HB.out)
        clear HB
        have HB := n0_
        clear n0_
        have p205 : 0 ≤ ((ji3) : Int) := of_decide_eq_true (by first | (with_reducible assumption) | assumption)
        have q205 : (ji3) < (l0.length : Int) := of_decide_eq_true (by first | (with_reducible assumption) | assumption)
        obtain ⟨ad205, A205_1, c205_1, A205_3, c205_3, e205, hx205_0, hx205_1, hx205_2, hx205_3, hl205_1, hi205_1, hl205_3, hi205_3⟩ := at_T39 HR0.out (ji3) p205 q205
        have hw205_3 := hx205_3
        have hw205_2 := hx205_2
        have hw205_1 := hx205_1
        have hw205_0 := hx205_0
        cases e205
        replace hx205_0 := (HB.out.cell (World.block_lt_of_cell? w _ hx205_0)).trans hx205_0
        replace hx205_1 := (HB.out.cell (World.block_lt_of_cell? w _ hx205_1)).trans hx205_1
        replace hx205_2 := (HB.out.cell (World.block_lt_of_cell? w _ hx205_2)).trans hx205_2
        replace hx205_3 := (HB.out.cell (World.block_lt_of_cell? w _ hx205_3)).trans hx205_3
        have HR205_1 := Z0.mk hi205_1
        have HC205_1 := Z0.mk hl205_1
        clear hi205_1 hl205_1
        have HR205_3 := Z0.mk hi205_3
        have HC205_3 := Z0.mk hl205_3
        clear hi205_3 hl205_3
        replace p205 := eq_true p205
        replace q205 := eq_true q205
        have p206 : 0 ≤ (x3_1 : Int) := of_decide_eq_true (by first | (with_reducible assumption) | assumption)
        have q206 : x3_1 < (l0.length : Int) := of_decide_eq_true (by first | (with_reducible assumption) | assumption)
        obtain ⟨ad206, A206_1, c206_1, A206_3, c206_3, e206, hx206_0, hx206_1, hx206_2, hx206_3, hl206_1, hi206_1, hl206_3, hi206_3⟩ := at_T39 HR0.out x3_1 p206 q206
        have hw206_3 := hx206_3
        have hw206_2 := hx206_2
        have hw206_1 := hx206_1
        have hw206_0 := hx206_0
        obtain rfl : ad205 = ad206 := (by injection e206)
        replace hx206_0 := (HB.out.cell (World.block_lt_of_cell? w _ hx206_0)).trans hx206_0
        replace hx206_1 := (HB.out.cell (World.block_lt_of_cell? w _ hx206_1)).trans hx206_1
        replace hx206_2 := (HB.out.cell (World.block_lt_of_cell? w _ hx206_2)).trans hx206_2
        replace hx206_3 := (HB.out.cell (World.block_lt_of_cell? w _ hx206_3)).trans hx206_3
        have HR206_1 := Z0.mk hi206_1
        have HC206_1 := Z0.mk hl206_1
        clear hi206_1 hl206_1
        have HR206_3 := Z0.mk hi206_3
        have HC206_3 := Z0.mk hl206_3
        clear hi206_3 hl206_3
        replace p206 := eq_true p206
        replace q206 := eq_true q206
        refine start_ (n := 11) (S := fun w' => w'.cell? (ad205.add (((ji3)).toNat * 4)) = some (.int .i64 ((rd_T39 l0 (ji3)).f0)) ∧ w'.cell? ⟨(ad205.add (((ji3)).toNat * 4)).block, (ad205.add (((ji3)).toNat * 4)).off + 1, none⟩ = some (.slice A205_1 ((rd_T39 l0 (ji3)).f1).length c205_1) ∧ w'.cell? ⟨(ad205.add (((ji3)).toNat * 4)).block, (ad205.add (((ji3)).toNat * 4)).off + 2, none⟩ = some (.int .i64 ((rd_T39 l0 (ji3)).f2)) ∧ w'.cell? ⟨(ad205.add (((ji3)).toNat * 4)).block, (ad205.add (((ji3)).toNat * 4)).off + 3, none⟩ = some (.slice A205_3 ((rd_T39 l0 (ji3)).f3).length c205_3) ∧ w'.cell? (ad205.add ((x3_1).toNat * 4)) = some (.int .i64 ((rd_T39 l0 x3_1).f0)) ∧ w'.cell? ⟨(ad205.add ((x3_1).toNat * 4)).block, (ad205.add ((x3_1).toNat * 4)).off + 1, none⟩ = some (.slice A206_1 ((rd_T39 l0 x3_1).f1).length c206_1) ∧ w'.cell? ⟨(ad205.add ((x3_1).toNat * 4)).block, (ad205.add ((x3_1).toNat * 4)).off + 2, none⟩ = some (.int .i64 ((rd_T39 l0 x3_1).f2)) ∧ w'.cell? ⟨(ad205.add ((x3_1).toNat * 4)).block, (ad205.add ((x3_1).toNat * 4)).off + 3, none⟩ = some (.slice A206_3 ((rd_T39 l0 x3_1).f3).length c206_3)) (ds := []) #[false, false, false, false, false, false, false, false, false, false, false] (by kernel_rfl) rfl rfl ⟨((HB.out.cell (World.block_lt_of_cell? w _ hw205_0)).trans hw205_0), ((HB.out.cell (World.block_lt_of_cell? w _ hw205_1)).trans hw205_1), ((HB.out.cell (World.block_lt_of_cell? w _ hw205_2)).trans hw205_2), ((HB.out.cell (World.block_lt_of_cell? w _ hw205_3)).trans hw205_3), ((HB.out.cell (World.block_lt_of_cell? w _ hw206_0)).trans hw206_0), ((HB.out.cell (World.block_lt_of_cell? w _ hw206_1)).trans hw206_1), ((HB.out.cell (World.block_lt_of_cell? w _ hw206_2)).trans hw206_2), ((HB.out.cell (World.block_lt_of_cell? w _ hw206_3)).trans hw206_3)⟩ (fun hHeld => ?_); refine with_tabW columbaryref13_Sorted.tab4 columbaryref13_Sorted.bits4 (fun HT_ HW_ => ?_)
        generalize wr.drew = w11 at HB HR205_1 HR205_3 HR206_1 HR206_3 hx205_0 hx205_1 hx205_2 hx205_3 hx206_0 hx206_1 hx206_2 hx206_3 hHeld ⊢
        refine pure_ (i := 0) (N := some 11) (v := ?_) (a' := ?_) #[true, false, false, false, false, false, false, false, false, false, false] rfl rfl (any_of HT_.out (by kernel_rfl)) (fun _ _ _ h => h) (Or.inl ⟨by rfl, ?_⟩) ?_ ?_
        rotate_left
        ·intro w'
         go_simp
         with_reducible rfl
        rotate_left
        ·simp only [Act.put, qA, qB, qC, i64_w, i32_w]
         rfl
        refine pure_ (i := 1) (N := some 12) (v := ?_) (a' := ?_) #[true, true, false, false, false, false, false, false, false, false, false] rfl rfl (any_of HT_.out (by kernel_rfl)) (fun _ _ _ h => h) (Or.inl ⟨by rfl, ?_⟩) ?_ ?_
        rotate_left
        ·intro w'
         go_simp
         with_reducible rfl
        rotate_left
        ·simp only [Act.put, qA, qB, qC, i64_w, i32_w]
         rfl
        refine pure_ (i := 2) (N := some 13) (v := ?_) (a' := ?_) #[true, true, true, false, false, false, false, false, false, false, false] rfl rfl (any_of HT_.out (by kernel_rfl)) (fun _ _ _ h => h) (Or.inl ⟨by rfl, ?_⟩) ?_ ?_
        rotate_left
        ·intro w'
         go_simp
         with_reducible rfl
        rotate_left
        ·simp only [Act.put, qA, qB, qC, i64_w, i32_w]
         rfl
        refine pure_ (i := 3) (N := some 14) (v := ?_) (a' := ?_) #[true, true, true, true, false, false, false, false, false, false, false] rfl rfl (any_of HT_.out (by kernel_rfl)) (fun _ _ _ h => h) (Or.inl ⟨by rfl, ?_⟩) ?_ ?_
        rotate_left
        ·intro w'
         go_simp
         with_reducible rfl
        rotate_left
        ·simp only [Act.put, qA, qB, qC, i64_w, i32_w]
         rfl
        refine pure_ (i := 5) (N := some 16) (v := ?_) (a' := ?_) #[true, true, true, true, false, true, false, false, false, false, false] rfl rfl (any_of HT_.out (by kernel_rfl)) (fun _ _ _ h => h) (Or.inl ⟨by rfl, ?_⟩) ?_ ?_
        rotate_left
        ·intro w'
         go_simp
         with_reducible rfl
        rotate_left
        ·simp only [Act.put, qA, qB, qC, i64_w, i32_w]
         rfl
        refine pure_ (i := 6) (N := some 17) (v := ?_) (a' := ?_) #[true, true, true, true, false, true, true, false, false, false, false] rfl rfl (any_of HT_.out (by kernel_rfl)) (fun _ _ _ h => h) (Or.inl ⟨by rfl, ?_⟩) ?_ ?_
        rotate_left
        ·intro w'
         go_simp
         with_reducible rfl
        rotate_left
        ·simp only [Act.put, qA, qB, qC, i64_w, i32_w]
         rfl
        refine pure_ (i := 7) (N := some 18) (v := ?_) (a' := ?_) #[true, true, true, true, false, true, true, true, false, false, false] rfl rfl (any_of HT_.out (by kernel_rfl)) (fun _ _ _ h => h) (Or.inl ⟨by rfl, ?_⟩) ?_ ?_
        rotate_left
        ·intro w'
         go_simp
         with_reducible rfl
        rotate_left
        ·simp only [Act.put, qA, qB, qC, i64_w, i32_w]
         rfl
        refine take_ (i := 4) (N := some 15) (v := ?_) (a' := ?_) #[true, true, true, true, true, true, true, true, false, false, false] rfl rfl (take_ofW HT_.out HW_.out (by kernel_rfl)) (fun _ _ _ h => h) (Or.inl ⟨by rfl, ?_⟩) hHeld ?_ ?_
        rotate_left
        ·rintro w' ⟨s0, s1, s2, s3, s4, s5, s6, s7⟩
         go_simp
         with_reducible rfl
        rotate_left
        ·simp only [Act.put, qA, qB, qC, i64_w, i32_w]
         rfl
        refine take_ (i := 8) (N := some 19) (v := ?_) (a' := ?_) #[true, true, true, true, true, true, true, true, true, false, false] rfl rfl (take_ofW HT_.out HW_.out (by kernel_rfl)) (fun _ _ _ h => h) (Or.inl ⟨by rfl, ?_⟩) hHeld ?_ ?_
        rotate_left
        ·rintro w' ⟨s0, s1, s2, s3, s4, s5, s6, s7⟩
         go_simp
         with_reducible rfl
        rotate_left
        ·simp only [Act.put, qA, qB, qC, i64_w, i32_w]
         rfl
        refine one_ (i := 9) (N := some 20) #[true, true, true, true, true, true, true, true, true, true, false] rfl rfl (one_of HT_.out (by kernel_rfl)) (by decide) (fun K hK => ?_)
        refine goes_ Try.func32 (by kernel_rfl) rfl #[.agg #[.int .i64 ((rd_T39 l0 (ji3)).f0), .slice A205_1 ((rd_T39 l0 (ji3)).f1).length c205_1, .int .i64 ((rd_T39 l0 (ji3)).f2), .slice A205_3 ((rd_T39 l0 (ji3)).f3).length c205_3], .agg #[.int .i64 ((rd_T39 l0 x3_1).f0), .slice A206_1 ((rd_T39 l0 x3_1).f1).length c206_1, .int .i64 ((rd_T39 l0 x3_1).f2), .slice A206_3 ((rd_T39 l0 x3_1).f3).length c206_3]] (by rfl) rfl rfl (by (try simp only [List.map_toArray, List.map_cons, List.map_nil]); first | done | (simp only [hji3]; rfl) | rfl | (simp only [List.length_drop, List.length_take]; rfl)) ?_
        with_reducible refine (columbaryref13_Less.calls k1 ((rd_T39 l0 (ji3)).f0) _ _ ((rd_T39 l0 (ji3)).f1) ((rd_T39 l0 (ji3)).f2) _ _ ((rd_T39 l0 (ji3)).f3) ((rd_T39 l0 x3_1).f0) _ _ ((rd_T39 l0 x3_1).f1) ((rd_T39 l0 x3_1).f2) _ _ ((rd_T39 l0 x3_1).f3) false _ ?side1 ?side2 ?side3 ?side4 ?side5 ?side6 ?side7 ?side8 A7.out).mono ?_
        (case side1 => repeat (first | exact (Kd.C_below HR205_1.out HB.out) | (with_reducible refine Kd.C_alloc ?_ _) | (with_reducible refine Kd.C_drewN ?_ _) | (with_reducible refine Kd.C_drew ?_)))
        (case side2 => exact HC205_1.out)
        (case side3 => repeat (first | exact (Kd.C_below HR205_3.out HB.out) | (with_reducible refine Kd.C_alloc ?_ _) | (with_reducible refine Kd.C_drewN ?_ _) | (with_reducible refine Kd.C_drew ?_)))
        (case side4 => exact HC205_3.out)
        (case side5 => repeat (first | exact (Kd.C_below HR206_1.out HB.out) | (with_reducible refine Kd.C_alloc ?_ _) | (with_reducible refine Kd.C_drewN ?_ _) | (with_reducible refine Kd.C_drew ?_)))
        (case side6 => exact HC206_1.out)
        (case side7 => repeat (first | exact (Kd.C_below HR206_3.out HB.out) | (with_reducible refine Kd.C_alloc ?_ _) | (with_reducible refine Kd.C_drewN ?_ _) | (with_reducible refine Kd.C_drew ?_)))
        (case side8 => exact HC206_3.out)
        rintro e w12 ⟨rfl, hb⟩
        refine ⟨_, rfl, ?_⟩
        have n0_ := Z0.mk (below_step (by repeat (first | (with_reducible first | exact HB.out | apply beA | apply bpN | apply bd1) | exact HB.out)) hb)
        clear HB
        have HB := n0_
        clear n0_
        (try clear hb)
        (try clear hb2)
        (try clear hk)
        (try clear hi)
        refine hK.out _ _ ⟨((HB.out.cell (World.block_lt_of_cell? w _ hw205_0)).trans hw205_0), ((HB.out.cell (World.block_lt_of_cell? w _ hw205_1)).trans hw205_1), ((HB.out.cell (World.block_lt_of_cell? w _ hw205_2)).trans hw205_2), ((HB.out.cell (World.block_lt_of_cell? w _ hw205_3)).trans hw205_3), ((HB.out.cell (World.block_lt_of_cell? w _ hw206_0)).trans hw206_0), ((HB.out.cell (World.block_lt_of_cell? w _ hw206_1)).trans hw206_1), ((HB.out.cell (World.block_lt_of_cell? w _ hw206_2)).trans hw206_2), ((HB.out.cell (World.block_lt_of_cell? w _ hw206_3)).trans hw206_3)⟩ (fun hHeld => ?_)
        clear hK K
        refine norm_ (a' := ?_) ?_ ?_
        rotate_left
        ·show Act.put _ (some 20) _ = _
         simp only [Act.put, qA, qB, qC, i64_w, i32_w]
         rfl
        refine pure_ (i := 10) (N := some 4) (v := ?_) (a' := ?_) #[true, true, true, true, true, true, true, true, true, true, true] rfl rfl (any_of HT_.out (by kernel_rfl)) (fun _ _ _ h => h) (Or.inl ⟨by rfl, ?_⟩) ?_ ?_
        rotate_left
        ·intro w'
         go_simp
         with_reducible rfl
        rotate_left
        ·simp only [Act.put, qA, qB, qC, i64_w, i32_w]
         rfl
        refine done_ (done_of HT_.out (by kernel_rfl)) ?_
        try go_wp2
        go_ret
        exact ⟨by first | rfl | (simp [errW_none, errW_some] <;> rfl) | (simp only [← hji3]; first | rfl | (simp [errW_none, errW_some] <;> rfl)) | (simp [*, errW_none, errW_some] <;> rfl), by repeat (first | (with_reducible first | exact HB.out | apply beA | apply bpN | apply bd1) | exact HB.out)⟩
      ·rw [if_neg c6] at H
       exact absurd H (by simp)
     ·rw [if_neg c5] at H
      exact absurd H (by simp)
    ·rw [if_neg c4] at H
     exact absurd H (by simp)
   ·rw [if_neg c2] at H
    have c2b0 : decide (x3_1 < (l0.length : Int)) = false := decide_eq_false c2
    clear c2
    obtain rfl := Option.some.inj H
    go_wp2
    go_ret
    exact ⟨by first | rfl | (simp [errW_none, errW_some] <;> rfl) | (simp [*, errW_none, errW_some] <;> rfl), by repeat (first | (with_reducible first | exact HB.out | apply beA | apply bpN | apply bd1) | exact HB.out)⟩
end Go.Proofs.Ytdeeffahfkndkaa.P
namespace Go.Proofs.Ytdeeffahfkndkaa.P
open Go.RowKit Go.Proofs.YtdeeffahfkndkaaW.PrintWords Go.Proofs.YtdeeffahfkndkaaW.PrintLast Go.Proofs.YtdeeffahfkndkaaW.PrintMore
attribute [local go_sem] max2_int min2_int max_two min_two max_three min_three max_four min_four
set_option linter.unusedVariables false
set_option linter.unusedSimpArgs false
def columbaryref03_Texts.l0 : Nat → List ByteArray → List ByteArray → Int → Option (Bool)
 | 0, _, _, _ => none
 | k + 1, x0, x1, x5 => if x5 < (x0.length : Int) then (if 0 ≤ x5 then (if x5 < (x1.length : Int) then (if (rdOf ByteArray.empty x0 x5).toList = (rdOf ByteArray.empty x1 x5).toList then (columbaryref03_Texts.l0 k x0 x1 (wrap64 (x5 + 1))) else (some false)) else (none)) else (none)) else (some true)
def columbaryref03_Texts.f (k : Nat) (l0 : List ByteArray) (l1 : List ByteArray) : Option (Bool) := if (l0.length : Int) = (l1.length : Int) then (columbaryref03_Texts.l0 k l0 l1 0) else (some false)
set_option maxHeartbeats 8000000 in
set_option maxRecDepth 100000 in
theorem columbaryref03_Texts.calls (k : Nat) (A0 : Option Addr) (c0 : Nat) (l0 : List ByteArray) (A1 : Option Addr) (c1 : Nat) (l1 : List ByteArray) (r : Bool) (w : World) (hr0 : Kd.C Kd.string w A0 l0.length l0) (hc0 : l0.length ≤ c0) (hr1 : Kd.C Kd.string w A1 l1.length l1) (hc1 : l1.length ≤ c1) (h : columbaryref03_Texts.f k l0 l1 = some r) :
  Calls Try.prog 49 #[.slice A0 l0.length c0, .slice A1 l1.length c1] w fun e w' => e = .returned (.bool r) ∧ Drawn0 w w' := by
 have HR0 := Z0.mk hr0
 have HC0 := Z0.mk hc0
 clear hr0 hc0
 have HR1 := Z0.mk hr1
 have HC1 := Z0.mk hc1
 clear hr1 hc1
 have H : (if (l0.length : Int) = (l1.length : Int) then (columbaryref03_Texts.l0 k l0 l1 0) else (some false)) = some r := h
 clear h
 by_cases c3 : (l0.length : Int) = (l1.length : Int)
 ·rw [if_pos c3] at H
  have c3b0 : ((l0.length : Int) == (l1.length : Int)) = true := beq_iff_eq.mpr c3
  have c3b1 : ((l0.length : Int) != (l1.length : Int)) = false := bne_eq_false_iff_eq.mpr c3
  have c3b2 : (l0.length == l1.length) = true := by first | simpa using c3 | (simp at c3 ⊢; omega)
  clear c3
  have H' := Z0.mk H
  clear H
  go_enter Try.func49, Try.ntmps49
  go_wp2
  repeat (go_quiet (fail); try go_wp2)
  go_loopg [5] k (fun kq v5 w' => ∃ (x5_1 : Int), v5 = .int .i64 x5_1 ∧ Z0 (columbaryref03_Texts.l0 kq l0 l1 x5_1 = some r) ∧ Z0 (kq ≤ k) ∧ Drawn0 w w')
  case atStart => exact ⟨(0), (by first | rfl | (simp; done) | (simp [*]; done)), H', ⟨Nat.le_refl _⟩, by repeat (first | exact Drawn0.refl _ | apply Drawn0.step)⟩
  case round =>
   clear H'
   try clear c1
   try clear p2
   try clear c3
   try clear c3b0
   try clear c3b1
   try clear c3b2
   obtain ⟨x5_1, rfl, HA, HK1, ⟨m1, rfl⟩⟩ := hrel
   cases gk with
   | zero => exact absurd HA.out (by simp [columbaryref03_Texts.l0])
   | succ k1 =>
    have H := HA.out
    clear HA
    simp only [columbaryref03_Texts.l0] at H
    by_cases c4 : x5_1 < (l0.length : Int)
    ·rw [if_pos c4] at H
     have c4b0 : decide (x5_1 < (l0.length : Int)) = true := decide_eq_true c4
     clear c4
     by_cases c5 : 0 ≤ x5_1
     ·rw [if_pos c5] at H
      have c5b0 : decide (0 ≤ x5_1) = true := decide_eq_true c5
      clear c5
      by_cases c6 : x5_1 < (l1.length : Int)
      ·rw [if_pos c6] at H
       have c6b0 : decide (x5_1 < (l1.length : Int)) = true := decide_eq_true c6
       clear c6
       by_cases c7 : (rdOf ByteArray.empty l0 x5_1).toList = (rdOf ByteArray.empty l1 x5_1).toList
       ·rw [if_pos c7] at H
        have c7b0 : ((rdOf ByteArray.empty l0 x5_1).toList == (rdOf ByteArray.empty l1 x5_1).toList) = true := beq_iff_eq.mpr c7
        have c7b1 : ((rdOf ByteArray.empty l0 x5_1).toList != (rdOf ByteArray.empty l1 x5_1).toList) = false := bne_eq_false_iff_eq.mpr c7
        clear c7
        have H' := Z0.mk H
        clear H
        have p218 : 0 ≤ (x5_1 : Int) := of_decide_eq_true (by first | (with_reducible assumption) | assumption)
        have q218 : x5_1 < (l0.length : Int) := of_decide_eq_true (by first | (with_reducible assumption) | assumption)
        obtain ⟨ad218, e218, hx218_0⟩ := Kd.at_string HR0.out x5_1 p218 q218
        cases e218
        replace p218 := eq_true p218
        replace q218 := eq_true q218
        have p219 : 0 ≤ (x5_1 : Int) := of_decide_eq_true (by first | (with_reducible assumption) | assumption)
        have q219 : x5_1 < (l1.length : Int) := of_decide_eq_true (by first | (with_reducible assumption) | assumption)
        obtain ⟨ad219, e219, hx219_0⟩ := Kd.at_string HR1.out x5_1 p219 q219
        cases e219
        replace p219 := eq_true p219
        replace q219 := eq_true q219
        go_wp2
        repeat (go_quiet (fail); try go_wp2)
        go_roundg k1
        case measure => have := HK1.out; omega
        case rel => exact ⟨(wrap64 (x5_1 + 1)), (by first | rfl | (simp; done) | (simp [*]; done)), H', ⟨by have := HK1.out; omega⟩, by repeat (first | exact Drawn0.refl _ | apply Drawn0.step)⟩
       ·rw [if_neg c7] at H
        have c7b0 : ((rdOf ByteArray.empty l0 x5_1).toList == (rdOf ByteArray.empty l1 x5_1).toList) = false := beq_eq_false_iff_ne.mpr c7
        have c7b1 : ((rdOf ByteArray.empty l0 x5_1).toList != (rdOf ByteArray.empty l1 x5_1).toList) = true := bne_iff_ne.mpr c7
        obtain rfl := Option.some.inj H
        have p218 : 0 ≤ (x5_1 : Int) := of_decide_eq_true (by first | (with_reducible assumption) | assumption)
        have q218 : x5_1 < (l0.length : Int) := of_decide_eq_true (by first | (with_reducible assumption) | assumption)
        obtain ⟨ad218, e218, hx218_0⟩ := Kd.at_string HR0.out x5_1 p218 q218
        cases e218
        replace p218 := eq_true p218
        replace q218 := eq_true q218
        have p219 : 0 ≤ (x5_1 : Int) := of_decide_eq_true (by first | (with_reducible assumption) | assumption)
        have q219 : x5_1 < (l1.length : Int) := of_decide_eq_true (by first | (with_reducible assumption) | assumption)
        obtain ⟨ad219, e219, hx219_0⟩ := Kd.at_string HR1.out x5_1 p219 q219
        cases e219
        replace p219 := eq_true p219
        replace q219 := eq_true q219
        go_wp2
        repeat (go_quiet (fail); try go_wp2)
        go_ret
        exact ⟨by first | rfl | (simp; done) | (simp [*]; done), by repeat (first | exact Drawn0.refl _ | apply Drawn0.step)⟩
      ·rw [if_neg c6] at H
       exact absurd H (by simp)
     ·rw [if_neg c5] at H
      exact absurd H (by simp)
    ·rw [if_neg c4] at H
     have c4b0 : decide (x5_1 < (l0.length : Int)) = false := decide_eq_false c4
     clear c4
     obtain rfl := Option.some.inj H
     go_wp2
     repeat (go_quiet (fail); try go_wp2)
     go_ret
     exact ⟨by first | rfl | (simp; done) | (simp [*]; done), by repeat (first | exact Drawn0.refl _ | apply Drawn0.step)⟩
 ·rw [if_neg c3] at H
  have c3b0 : ((l0.length : Int) == (l1.length : Int)) = false := beq_eq_false_iff_ne.mpr c3
  have c3b1 : ((l0.length : Int) != (l1.length : Int)) = true := bne_iff_ne.mpr c3
  have c3b2 : (l0.length == l1.length) = false := by first | simpa using c3 | (simp at c3 ⊢; omega)
  obtain rfl := Option.some.inj H
  go_enter Try.func49, Try.ntmps49
  go_wp2
  repeat (go_quiet (fail); try go_wp2)
  go_ret
  exact ⟨by first | rfl | (simp; done) | (simp [*]; done), by repeat (first | exact Drawn0.refl _ | apply Drawn0.step)⟩
end Go.Proofs.Ytdeeffahfkndkaa.P
namespace Go.Proofs.Ytdeeffahfkndkaa.P
open Go.RowKit Go.Proofs.YtdeeffahfkndkaaW.PrintWords Go.Proofs.YtdeeffahfkndkaaW.PrintLast Go.Proofs.YtdeeffahfkndkaaW.PrintMore
attribute [local go_sem] max2_int min2_int max_two min_two max_three min_three max_four min_four
set_option linter.unusedVariables false
set_option linter.unusedSimpArgs false
def columbaryref13_OneKey.f (k : Nat) (a0_0 : Int) (l0_1 : List ByteArray) (a0_2 : Int) (l0_3 : List (S71)) (a1_0 : Int) (l1_1 : List ByteArray) (a1_2 : Int) (l1_3 : List (S71)) : Option (Bool) := (columbaryref03_Texts.f k l0_1 l1_1).bind fun t222 => (if t222 = true then (some (a0_0 == a1_0)) else (some false))
set_option maxHeartbeats 8000000 in
set_option maxRecDepth 100000 in
theorem columbaryref13_OneKey.calls (k : Nat) (a0_0 : Int) (A0_1 : Option Addr) (c0_1 : Nat) (l0_1 : List ByteArray) (a0_2 : Int) (A0_3 : Option Addr) (c0_3 : Nat) (l0_3 : List (S71)) (a1_0 : Int) (A1_1 : Option Addr) (c1_1 : Nat) (l1_1 : List ByteArray) (a1_2 : Int) (A1_3 : Option Addr) (c1_3 : Nat) (l1_3 : List (S71)) (r : Bool) (w : World) (hr0_1 : Kd.C Kd.string w A0_1 l0_1.length l0_1) (hc0_1 : l0_1.length ≤ c0_1) (hr0_3 : Kd.C k71 w A0_3 l0_3.length l0_3) (hc0_3 : l0_3.length ≤ c0_3) (hr1_1 : Kd.C Kd.string w A1_1 l1_1.length l1_1) (hc1_1 : l1_1.length ≤ c1_1) (hr1_3 : Kd.C k71 w A1_3 l1_3.length l1_3) (hc1_3 : l1_3.length ≤ c1_3) (h : columbaryref13_OneKey.f k a0_0 l0_1 a0_2 l0_3 a1_0 l1_1 a1_2 l1_3 = some r) :
  Calls Try.prog 30 #[.agg #[.int .i64 a0_0, .slice A0_1 l0_1.length c0_1, .int .i64 a0_2, .slice A0_3 l0_3.length c0_3], .agg #[.int .i64 a1_0, .slice A1_1 l1_1.length c1_1, .int .i64 a1_2, .slice A1_3 l1_3.length c1_3]] w fun e w' => e = .returned (.bool r) ∧ Below w.heap.size w w' := by
 have hu39 := Try.underlying39
 have HR0_1 := Z0.mk hr0_1
 have HC0_1 := Z0.mk hc0_1
 clear hr0_1 hc0_1
 have HR0_3 := Z0.mk hr0_3
 have HC0_3 := Z0.mk hc0_3
 clear hr0_3 hc0_3
 have HR1_1 := Z0.mk hr1_1
 have HC1_1 := Z0.mk hc1_1
 clear hr1_1 hc1_1
 have HR1_3 := Z0.mk hr1_3
 have HC1_3 := Z0.mk hc1_3
 clear hr1_3 hc1_3
 have HB := Z0.mk (Below.refl w.heap.size w)
 have H : ((columbaryref03_Texts.f k l0_1 l1_1).bind fun t222 => (if t222 = true then (some (a0_0 == a1_0)) else (some false))) = some r := h
 clear h
 replace H := Option.bind_eq_some_iff.mp H
 obtain ⟨t222, A30, H⟩ := H
 replace H : (if t222 = true then (some (a0_0 == a1_0)) else (some false)) = some r := H
 have A3 := Z0.mk A30
 clear A30
 by_cases c4 : t222 = true
 ·subst c4
  have H1 : (some (a0_0 == a1_0)) = some r := by rw [if_pos rfl] at H; exact H
  clear H
  have H := H1
  clear H1
  obtain rfl := Option.some.inj H
  go_enter Try.func30, Try.ntmps30
  go_wp2_with (first | ((with_reducible refine gate_dst (N := 2) rfl ?_); refine box_event ?hg (N := 2) ?hd (cs := #[.int .i64 a0_0, .slice A0_1 l0_1.length c0_1, .int .i64 a0_2, .slice A0_3 l0_3.length c0_3]) (t := 39) ?hr ?_; (case hd => rfl); (case hg => rfl); (case hr => first | (go_simp; done) | (go_simp; rfl)); intro gb220 hg w5 hbox hb; have n0_ := Z0.mk (below_step (by repeat (first | (with_reducible first | exact HB.out | apply beA | apply bpN | apply bd1) | exact HB.out)) hb); have n1_ := Z0.mk (hbox); have n2_ := Z0.mk ((by rw [hg]; exact (below_size (by repeat (first | (with_reducible first | exact HB.out | apply beA | apply bpN | apply bd1) | exact HB.out))) : w.heap.size ≤ gb220)); have n3_ := Z0.mk ((by rw [hg]; exact (below_size (by repeat (first | (with_reducible first | exact HB.out | apply beA | apply bpN | apply bd1) | exact HB.out))) : w.heap.size ≤ gb220)); clear HB; have HB := n0_; have BK220 := n1_; have GW220 := n2_; have GE220 := n3_; clear n0_ n1_ n2_ n3_; clear hb hbox hg) | ((with_reducible refine gate_dst (N := 3) rfl ?_); refine box_event ?hg (N := 3) ?hd (cs := #[.int .i64 a1_0, .slice A1_1 l1_1.length c1_1, .int .i64 a1_2, .slice A1_3 l1_3.length c1_3]) (t := 39) ?hr ?_; (case hd => rfl); (case hg => rfl); (case hr => first | (go_simp; done) | (go_simp; rfl)); intro gb221 hg w6 hbox hb; have n0_ := Z0.mk (blk_below (g := gb220) (o := .cells #[.int .i64 a0_0, .slice A0_1 l0_1.length c0_1, .int .i64 a0_2, .slice A0_3 l0_3.length c0_3] 39 (0, 0)) (by (with_reducible repeat (first | refine bDN ?_ _ | refine bDr ?_ | refine bAl ?_ _)); exact BK220.out) hb); have n1_ := Z0.mk (below_step (by repeat (first | (with_reducible first | exact HB.out | apply beA | apply bpN | apply bd1 | refine beS ?_ GE220.out) | exact HB.out)) hb); have n2_ := Z0.mk (hbox); have n3_ := Z0.mk ((by rw [hg]; exact (below_size (by repeat (first | (with_reducible first | exact HB.out | apply beA | apply bpN | apply bd1 | refine beS ?_ GE220.out) | exact HB.out))) : w.heap.size ≤ gb221)); have n4_ := Z0.mk ((by rw [hg]; exact (below_size (by repeat (first | (with_reducible first | exact HB.out | apply beA | apply bpN | apply bd1 | refine beS ?_ GE220.out) | exact HB.out))) : w.heap.size ≤ gb221)); have n5_ := Z0.mk ((by rw [hg]; exact Nat.ne_of_lt (blk_lt (g := gb220) (o := .cells #[.int .i64 a0_0, .slice A0_1 l0_1.length c0_1, .int .i64 a0_2, .slice A0_3 l0_3.length c0_3] 39 (0, 0)) (by (with_reducible repeat (first | refine bDN ?_ _ | refine bDr ?_ | refine bAl ?_ _)); exact BK220.out)) : gb220 ≠ gb221)); have n6_ := Z0.mk ((by rw [hg]; exact Nat.ne_of_gt (blk_lt (g := gb220) (o := .cells #[.int .i64 a0_0, .slice A0_1 l0_1.length c0_1, .int .i64 a0_2, .slice A0_3 l0_3.length c0_3] 39 (0, 0)) (by (with_reducible repeat (first | refine bDN ?_ _ | refine bDr ?_ | refine bAl ?_ _)); exact BK220.out)) : gb221 ≠ gb220)); clear BK220; clear HB; have BK220 := n0_; have HB := n1_; have BK221 := n2_; have GW221 := n3_; have GE221 := n4_; have NB220_221 := n5_; have NB221_220 := n6_; clear n0_ n1_ n2_ n3_ n4_ n5_ n6_; clear hb hbox hg; have hnb7 := NB220_221.out; have hnc7 := NB221_220.out; have hcz8_0 : w6.cell? ⟨gb220, 0, none⟩ = some (.int .i64 a0_0) := (bCe BK220.out 0).trans rfl; have hcz8_1 : w6.cell? ⟨gb220, 1, none⟩ = some (.slice A0_1 l0_1.length c0_1) := (bCe BK220.out 1).trans rfl; have hcz8_2 : w6.cell? ⟨gb220, 2, none⟩ = some (.int .i64 a0_2) := (bCe BK220.out 2).trans rfl; have hcz8_3 : w6.cell? ⟨gb220, 3, none⟩ = some (.slice A0_3 l0_3.length c0_3) := (bCe BK220.out 3).trans rfl; have hfz8_0 := bFz BK220.out 0; have hfz8_1 := bFz BK220.out 1; have hfz8_2 := bFz BK220.out 2; have hfz8_3 := bFz BK220.out 3; have hcz9_0 : w6.cell? ⟨gb221, 0, none⟩ = some (.int .i64 a1_0) := (bCe BK221.out 0).trans rfl; have hcz9_1 : w6.cell? ⟨gb221, 1, none⟩ = some (.slice A1_1 l1_1.length c1_1) := (bCe BK221.out 1).trans rfl; have hcz9_2 : w6.cell? ⟨gb221, 2, none⟩ = some (.int .i64 a1_2) := (bCe BK221.out 2).trans rfl; have hcz9_3 : w6.cell? ⟨gb221, 3, none⟩ = some (.slice A1_3 l1_3.length c1_3) := (bCe BK221.out 3).trans rfl; have hfz9_0 := bFz BK221.out 0; have hfz9_1 := bFz BK221.out 1; have hfz9_2 := bFz BK221.out 2; have hfz9_3 := bFz BK221.out 3) | ((with_reducible refine gate_callee (f := 49) rfl ?_); refine goesL_ (some 10) rfl rfl Try.func49 (by kernel_rfl) rfl #[.slice A0_1 l0_1.length c0_1, .slice A1_1 l1_1.length c1_1] rfl (by (try simp only [List.map_toArray, List.map_cons, List.map_nil]); first | done | rfl | (simp only [List.length_drop, List.length_take]; rfl)) ?_; (with_reducible refine (columbaryref03_Texts.calls k _ _ l0_1 _ _ l1_1 true _ ?side1 ?side2 ?side3 ?side4 A3.out).mono ?_); (case side1 => repeat (first | exact (Kd.C_below HR0_1.out HB.out) | (with_reducible refine Kd.C_alloc ?_ _) | (with_reducible refine Kd.C_drewN ?_ _) | (with_reducible refine Kd.C_drew ?_))); (case side2 => exact HC0_1.out); (case side3 => repeat (first | exact (Kd.C_below HR1_1.out HB.out) | (with_reducible refine Kd.C_alloc ?_ _) | (with_reducible refine Kd.C_drewN ?_ _) | (with_reducible refine Kd.C_drew ?_))); (case side4 => exact HC1_1.out); rintro e w' ⟨rfl, ⟨nd, rfl⟩⟩; refine ⟨_, rfl, ?_⟩))
  go_ret
  exact ⟨by first | rfl | (simp [errW_none, errW_some] <;> rfl) | (simp [*, errW_none, errW_some] <;> rfl), by repeat (first | (with_reducible first | exact HB.out | apply beA | apply bpN | apply bd1 | refine beS ?_ GE220.out | refine beS ?_ GE221.out) | exact HB.out)⟩
 ·replace c4 := Bool.eq_false_iff.mpr c4
  subst c4
  have H1 : (some false) = some r := by rw [if_neg (show ¬ (false = true) by decide)] at H; exact H
  clear H
  have H := H1
  clear H1
  obtain rfl := Option.some.inj H
  go_enter Try.func30, Try.ntmps30
  go_wp2_with (first | ((with_reducible refine gate_dst (N := 2) rfl ?_); refine box_event ?hg (N := 2) ?hd (cs := #[.int .i64 a0_0, .slice A0_1 l0_1.length c0_1, .int .i64 a0_2, .slice A0_3 l0_3.length c0_3]) (t := 39) ?hr ?_; (case hd => rfl); (case hg => rfl); (case hr => first | (go_simp; done) | (go_simp; rfl)); intro gb220 hg w10 hbox hb; have n0_ := Z0.mk (below_step (by repeat (first | (with_reducible first | exact HB.out | apply beA | apply bpN | apply bd1) | exact HB.out)) hb); have n1_ := Z0.mk (hbox); have n2_ := Z0.mk ((by rw [hg]; exact (below_size (by repeat (first | (with_reducible first | exact HB.out | apply beA | apply bpN | apply bd1) | exact HB.out))) : w.heap.size ≤ gb220)); have n3_ := Z0.mk ((by rw [hg]; exact (below_size (by repeat (first | (with_reducible first | exact HB.out | apply beA | apply bpN | apply bd1) | exact HB.out))) : w.heap.size ≤ gb220)); clear HB; have HB := n0_; have BK220 := n1_; have GW220 := n2_; have GE220 := n3_; clear n0_ n1_ n2_ n3_; clear hb hbox hg) | ((with_reducible refine gate_dst (N := 3) rfl ?_); refine box_event ?hg (N := 3) ?hd (cs := #[.int .i64 a1_0, .slice A1_1 l1_1.length c1_1, .int .i64 a1_2, .slice A1_3 l1_3.length c1_3]) (t := 39) ?hr ?_; (case hd => rfl); (case hg => rfl); (case hr => first | (go_simp; done) | (go_simp; rfl)); intro gb221 hg w11 hbox hb; have n0_ := Z0.mk (blk_below (g := gb220) (o := .cells #[.int .i64 a0_0, .slice A0_1 l0_1.length c0_1, .int .i64 a0_2, .slice A0_3 l0_3.length c0_3] 39 (0, 0)) (by (with_reducible repeat (first | refine bDN ?_ _ | refine bDr ?_ | refine bAl ?_ _)); exact BK220.out) hb); have n1_ := Z0.mk (below_step (by repeat (first | (with_reducible first | exact HB.out | apply beA | apply bpN | apply bd1 | refine beS ?_ GE220.out) | exact HB.out)) hb); have n2_ := Z0.mk (hbox); have n3_ := Z0.mk ((by rw [hg]; exact (below_size (by repeat (first | (with_reducible first | exact HB.out | apply beA | apply bpN | apply bd1 | refine beS ?_ GE220.out) | exact HB.out))) : w.heap.size ≤ gb221)); have n4_ := Z0.mk ((by rw [hg]; exact (below_size (by repeat (first | (with_reducible first | exact HB.out | apply beA | apply bpN | apply bd1 | refine beS ?_ GE220.out) | exact HB.out))) : w.heap.size ≤ gb221)); have n5_ := Z0.mk ((by rw [hg]; exact Nat.ne_of_lt (blk_lt (g := gb220) (o := .cells #[.int .i64 a0_0, .slice A0_1 l0_1.length c0_1, .int .i64 a0_2, .slice A0_3 l0_3.length c0_3] 39 (0, 0)) (by (with_reducible repeat (first | refine bDN ?_ _ | refine bDr ?_ | refine bAl ?_ _)); exact BK220.out)) : gb220 ≠ gb221)); have n6_ := Z0.mk ((by rw [hg]; exact Nat.ne_of_gt (blk_lt (g := gb220) (o := .cells #[.int .i64 a0_0, .slice A0_1 l0_1.length c0_1, .int .i64 a0_2, .slice A0_3 l0_3.length c0_3] 39 (0, 0)) (by (with_reducible repeat (first | refine bDN ?_ _ | refine bDr ?_ | refine bAl ?_ _)); exact BK220.out)) : gb221 ≠ gb220)); clear BK220; clear HB; have BK220 := n0_; have HB := n1_; have BK221 := n2_; have GW221 := n3_; have GE221 := n4_; have NB220_221 := n5_; have NB221_220 := n6_; clear n0_ n1_ n2_ n3_ n4_ n5_ n6_; clear hb hbox hg; have hnb12 := NB220_221.out; have hnc12 := NB221_220.out; have hcz13_0 : w11.cell? ⟨gb220, 0, none⟩ = some (.int .i64 a0_0) := (bCe BK220.out 0).trans rfl; have hcz13_1 : w11.cell? ⟨gb220, 1, none⟩ = some (.slice A0_1 l0_1.length c0_1) := (bCe BK220.out 1).trans rfl; have hcz13_2 : w11.cell? ⟨gb220, 2, none⟩ = some (.int .i64 a0_2) := (bCe BK220.out 2).trans rfl; have hcz13_3 : w11.cell? ⟨gb220, 3, none⟩ = some (.slice A0_3 l0_3.length c0_3) := (bCe BK220.out 3).trans rfl; have hfz13_0 := bFz BK220.out 0; have hfz13_1 := bFz BK220.out 1; have hfz13_2 := bFz BK220.out 2; have hfz13_3 := bFz BK220.out 3; have hcz14_0 : w11.cell? ⟨gb221, 0, none⟩ = some (.int .i64 a1_0) := (bCe BK221.out 0).trans rfl; have hcz14_1 : w11.cell? ⟨gb221, 1, none⟩ = some (.slice A1_1 l1_1.length c1_1) := (bCe BK221.out 1).trans rfl; have hcz14_2 : w11.cell? ⟨gb221, 2, none⟩ = some (.int .i64 a1_2) := (bCe BK221.out 2).trans rfl; have hcz14_3 : w11.cell? ⟨gb221, 3, none⟩ = some (.slice A1_3 l1_3.length c1_3) := (bCe BK221.out 3).trans rfl; have hfz14_0 := bFz BK221.out 0; have hfz14_1 := bFz BK221.out 1; have hfz14_2 := bFz BK221.out 2; have hfz14_3 := bFz BK221.out 3) | ((with_reducible refine gate_callee (f := 49) rfl ?_); refine goesL_ (some 10) rfl rfl Try.func49 (by kernel_rfl) rfl #[.slice A0_1 l0_1.length c0_1, .slice A1_1 l1_1.length c1_1] rfl (by (try simp only [List.map_toArray, List.map_cons, List.map_nil]); first | done | rfl | (simp only [List.length_drop, List.length_take]; rfl)) ?_; (with_reducible refine (columbaryref03_Texts.calls k _ _ l0_1 _ _ l1_1 false _ ?side1 ?side2 ?side3 ?side4 A3.out).mono ?_); (case side1 => repeat (first | exact (Kd.C_below HR0_1.out HB.out) | (with_reducible refine Kd.C_alloc ?_ _) | (with_reducible refine Kd.C_drewN ?_ _) | (with_reducible refine Kd.C_drew ?_))); (case side2 => exact HC0_1.out); (case side3 => repeat (first | exact (Kd.C_below HR1_1.out HB.out) | (with_reducible refine Kd.C_alloc ?_ _) | (with_reducible refine Kd.C_drewN ?_ _) | (with_reducible refine Kd.C_drew ?_))); (case side4 => exact HC1_1.out); rintro e w' ⟨rfl, ⟨nd, rfl⟩⟩; refine ⟨_, rfl, ?_⟩))
  go_ret
  exact ⟨by first | rfl | (simp [errW_none, errW_some] <;> rfl) | (simp [*, errW_none, errW_some] <;> rfl), by repeat (first | (with_reducible first | exact HB.out | apply beA | apply bpN | apply bd1 | refine beS ?_ GE220.out | refine beS ?_ GE221.out) | exact HB.out)⟩
end Go.Proofs.Ytdeeffahfkndkaa.P
namespace Go.Proofs.Ytdeeffahfkndkaa.P
open Go.RowKit Go.Proofs.YtdeeffahfkndkaaW.PrintWords Go.Proofs.YtdeeffahfkndkaaW.PrintLast Go.Proofs.YtdeeffahfkndkaaW.PrintMore
attribute [local go_sem] max2_int min2_int max_two min_two max_three min_three max_four min_four
set_option linter.unusedVariables false
set_option linter.unusedSimpArgs false
theorem eqA71 (d : Nat) (w : World) (x0 y0 : Int) (x1 y1 : Int) (x2 y2 : Int) :
  (Op.equalIn (d + 2) 71 (.agg #[.int .i64 x0, .int .i64 x1, .int .i64 x2]) (.agg #[.int .i64 y0, .int .i64 y1, .int .i64 y2])).run Try.prog w = .ok (x0 == y0 && (x1 == y1 && (x2 == y2))) w := by
 refine eqA_of Try.underlying71 (by kernel_rfl) ?_
 refine eqf_cons (by rfl) (by go_simp; rfl) (by go_simp; rfl) (by go_simp) ?_
 refine eqf_cons (by rfl) (by go_simp; rfl) (by go_simp; rfl) (by go_simp) ?_
 exact eqf_last (by rfl) (by go_simp; rfl) (by go_simp; rfl) (by go_simp)
end Go.Proofs.Ytdeeffahfkndkaa.P
namespace Go.Proofs.Ytdeeffahfkndkaa.P
open Go.RowKit Go.Proofs.YtdeeffahfkndkaaW.PrintWords Go.Proofs.YtdeeffahfkndkaaW.PrintLast Go.Proofs.YtdeeffahfkndkaaW.PrintMore
attribute [local go_sem] max2_int min2_int max_two min_two max_three min_three max_four min_four
set_option linter.unusedVariables false
set_option linter.unusedSimpArgs false
attribute [local go_sem high] eqA71
def columbaryref12_Same.l0 : Nat → List (S71) → List (S71) → Int → Option (Bool)
 | 0, _, _, _ => none
 | k + 1, x0, x1, x5 => if x5 < (x0.length : Int) then (if 0 ≤ x5 then (if x5 < (x1.length : Int) then (if (!(((rd_T71 x0 x5).f0) == ((rd_T71 x1 x5).f0)) || (!(((rd_T71 x0 x5).f1) == ((rd_T71 x1 x5).f1)) || (!(((rd_T71 x0 x5).f2) == ((rd_T71 x1 x5).f2))))) = true then (some false) else (columbaryref12_Same.l0 k x0 x1 (wrap64 (x5 + 1)))) else (none)) else (none)) else (some true)
def columbaryref12_Same.f (k : Nat) (l0 : List (S71)) (l1 : List (S71)) : Option (Bool) := if (l0.length : Int) = (l1.length : Int) then (columbaryref12_Same.l0 k l0 l1 0) else (some false)
set_option maxHeartbeats 8000000 in
set_option maxRecDepth 100000 in
theorem columbaryref12_Same.calls (k : Nat) (A0 : Option Addr) (c0 : Nat) (l0 : List (S71)) (A1 : Option Addr) (c1 : Nat) (l1 : List (S71)) (r : Bool) (w : World) (hr0 : Kd.C k71 w A0 l0.length l0) (hc0 : l0.length ≤ c0) (hr1 : Kd.C k71 w A1 l1.length l1) (hc1 : l1.length ≤ c1) (h : columbaryref12_Same.f k l0 l1 = some r) :
  Calls Try.prog 50 #[.slice A0 l0.length c0, .slice A1 l1.length c1] w fun e w' => e = .returned (.bool r) ∧ Drawn0 w w' := by
 have hu71 := Try.underlying71
 have HR0 := Z0.mk hr0
 have HC0 := Z0.mk hc0
 clear hr0 hc0
 have HR1 := Z0.mk hr1
 have HC1 := Z0.mk hc1
 clear hr1 hc1
 have H : (if (l0.length : Int) = (l1.length : Int) then (columbaryref12_Same.l0 k l0 l1 0) else (some false)) = some r := h
 clear h
 by_cases c3 : (l0.length : Int) = (l1.length : Int)
 ·rw [if_pos c3] at H
  have c3b0 : ((l0.length : Int) == (l1.length : Int)) = true := beq_iff_eq.mpr c3
  have c3b1 : ((l0.length : Int) != (l1.length : Int)) = false := bne_eq_false_iff_eq.mpr c3
  have c3b2 : (l0.length == l1.length) = true := by first | simpa using c3 | (simp at c3 ⊢; omega)
  clear c3
  have H' := Z0.mk H
  clear H
  go_enter Try.func50, Try.ntmps50
  go_wp2
  repeat (go_quiet (fail); try go_wp2)
  go_loopg [5] k (fun kq v5 w' => ∃ (x5_1 : Int), v5 = .int .i64 x5_1 ∧ Z0 (columbaryref12_Same.l0 kq l0 l1 x5_1 = some r) ∧ Z0 (kq ≤ k) ∧ Drawn0 w w')
  case atStart => exact ⟨(0), (by first | rfl | (simp; done) | (simp [*]; done)), H', ⟨Nat.le_refl _⟩, by repeat (first | exact Drawn0.refl _ | apply Drawn0.step)⟩
  case round =>
   clear H'
   try clear c1
   try clear p2
   try clear c3
   try clear c3b0
   try clear c3b1
   try clear c3b2
   obtain ⟨x5_1, rfl, HA, HK1, ⟨m1, rfl⟩⟩ := hrel
   cases gk with
   | zero => exact absurd HA.out (by simp [columbaryref12_Same.l0])
   | succ k1 =>
    have H := HA.out
    clear HA
    simp only [columbaryref12_Same.l0] at H
    by_cases c4 : x5_1 < (l0.length : Int)
    ·rw [if_pos c4] at H
     have c4b0 : decide (x5_1 < (l0.length : Int)) = true := decide_eq_true c4
     clear c4
     by_cases c5 : 0 ≤ x5_1
     ·rw [if_pos c5] at H
      have c5b0 : decide (0 ≤ x5_1) = true := decide_eq_true c5
      clear c5
      by_cases c6 : x5_1 < (l1.length : Int)
      ·rw [if_pos c6] at H
       have c6b0 : decide (x5_1 < (l1.length : Int)) = true := decide_eq_true c6
       clear c6
       by_cases c7 : (!(((rd_T71 l0 x5_1).f0) == ((rd_T71 l1 x5_1).f0)) || (!(((rd_T71 l0 x5_1).f1) == ((rd_T71 l1 x5_1).f1)) || (!(((rd_T71 l0 x5_1).f2) == ((rd_T71 l1 x5_1).f2))))) = true
       ·rw [if_pos c7] at H
        have c7b0 : (!(((rd_T71 l0 x5_1).f0) == ((rd_T71 l1 x5_1).f0)) || (!(((rd_T71 l0 x5_1).f1) == ((rd_T71 l1 x5_1).f1)) || (!(((rd_T71 l0 x5_1).f2) == ((rd_T71 l1 x5_1).f2))))) = true := c7
        clear c7
        obtain rfl := Option.some.inj H
        have p236 : 0 ≤ (x5_1 : Int) := of_decide_eq_true (by first | (with_reducible assumption) | assumption)
        have q236 : x5_1 < (l0.length : Int) := of_decide_eq_true (by first | (with_reducible assumption) | assumption)
        obtain ⟨ad236, e236, hx236_0, hx236_1, hx236_2⟩ := at_T71 HR0.out x5_1 p236 q236
        cases e236
        replace p236 := eq_true p236
        replace q236 := eq_true q236
        have p237 : 0 ≤ (x5_1 : Int) := of_decide_eq_true (by first | (with_reducible assumption) | assumption)
        have q237 : x5_1 < (l1.length : Int) := of_decide_eq_true (by first | (with_reducible assumption) | assumption)
        obtain ⟨ad237, e237, hx237_0, hx237_1, hx237_2⟩ := at_T71 HR1.out x5_1 p237 q237
        cases e237
        replace p237 := eq_true p237
        replace q237 := eq_true q237
        go_wp2
        repeat (go_quiet (fail); try go_wp2)
        go_ret
        exact ⟨by first | rfl | (simp; done) | (simp [*]; done), by repeat (first | exact Drawn0.refl _ | apply Drawn0.step)⟩
       ·rw [if_neg c7] at H
        have c7b0 : (!(((rd_T71 l0 x5_1).f0) == ((rd_T71 l1 x5_1).f0)) || (!(((rd_T71 l0 x5_1).f1) == ((rd_T71 l1 x5_1).f1)) || (!(((rd_T71 l0 x5_1).f2) == ((rd_T71 l1 x5_1).f2))))) = false := by simpa using c7
        clear c7
        have H' := Z0.mk H
        clear H
        have p236 : 0 ≤ (x5_1 : Int) := of_decide_eq_true (by first | (with_reducible assumption) | assumption)
        have q236 : x5_1 < (l0.length : Int) := of_decide_eq_true (by first | (with_reducible assumption) | assumption)
        obtain ⟨ad236, e236, hx236_0, hx236_1, hx236_2⟩ := at_T71 HR0.out x5_1 p236 q236
        cases e236
        replace p236 := eq_true p236
        replace q236 := eq_true q236
        have p237 : 0 ≤ (x5_1 : Int) := of_decide_eq_true (by first | (with_reducible assumption) | assumption)
        have q237 : x5_1 < (l1.length : Int) := of_decide_eq_true (by first | (with_reducible assumption) | assumption)
        obtain ⟨ad237, e237, hx237_0, hx237_1, hx237_2⟩ := at_T71 HR1.out x5_1 p237 q237
        cases e237
        replace p237 := eq_true p237
        replace q237 := eq_true q237
        go_wp2
        repeat (go_quiet (fail); try go_wp2)
        go_roundg k1
        case measure => have := HK1.out; omega
        case rel => exact ⟨(wrap64 (x5_1 + 1)), (by first | rfl | (simp; done) | (simp [*]; done)), H', ⟨by have := HK1.out; omega⟩, by repeat (first | exact Drawn0.refl _ | apply Drawn0.step)⟩
      ·rw [if_neg c6] at H
       exact absurd H (by simp)
     ·rw [if_neg c5] at H
      exact absurd H (by simp)
    ·rw [if_neg c4] at H
     have c4b0 : decide (x5_1 < (l0.length : Int)) = false := decide_eq_false c4
     clear c4
     obtain rfl := Option.some.inj H
     go_wp2
     repeat (go_quiet (fail); try go_wp2)
     go_ret
     exact ⟨by first | rfl | (simp; done) | (simp [*]; done), by repeat (first | exact Drawn0.refl _ | apply Drawn0.step)⟩
 ·rw [if_neg c3] at H
  have c3b0 : ((l0.length : Int) == (l1.length : Int)) = false := beq_eq_false_iff_ne.mpr c3
  have c3b1 : ((l0.length : Int) != (l1.length : Int)) = true := bne_iff_ne.mpr c3
  have c3b2 : (l0.length == l1.length) = false := by first | simpa using c3 | (simp at c3 ⊢; omega)
  obtain rfl := Option.some.inj H
  go_enter Try.func50, Try.ntmps50
  go_wp2
  repeat (go_quiet (fail); try go_wp2)
  go_ret
  exact ⟨by first | rfl | (simp; done) | (simp [*]; done), by repeat (first | exact Drawn0.refl _ | apply Drawn0.step)⟩
end Go.Proofs.Ytdeeffahfkndkaa.P
namespace Go.Proofs.Ytdeeffahfkndkaa.P
open Go.RowKit Go.Proofs.YtdeeffahfkndkaaW.PrintWords Go.Proofs.YtdeeffahfkndkaaW.PrintLast Go.Proofs.YtdeeffahfkndkaaW.PrintMore
attribute [local go_sem] max2_int min2_int max_two min_two max_three min_three max_four min_four
set_option linter.unusedVariables false
set_option linter.unusedSimpArgs false
def columbaryref13_One.f (k : Nat) (a0_0 : Int) (l0_1 : List ByteArray) (a0_2 : Int) (l0_3 : List (S71)) (a1_0 : Int) (l1_1 : List ByteArray) (a1_2 : Int) (l1_3 : List (S71)) : Option (Bool) := (columbaryref13_OneKey.f k a0_0 l0_1 a0_2 l0_3 a1_0 l1_1 a1_2 l1_3).bind fun t240 => ((columbaryref12_Same.f k l0_3 l1_3).bind fun t241 => (if t240 = true then (if t241 = true then (some (a0_2 == a1_2)) else (some false)) else (some false)))
set_option maxHeartbeats 8000000 in
set_option maxRecDepth 100000 in
theorem columbaryref13_One.calls (k : Nat) (a0_0 : Int) (A0_1 : Option Addr) (c0_1 : Nat) (l0_1 : List ByteArray) (a0_2 : Int) (A0_3 : Option Addr) (c0_3 : Nat) (l0_3 : List (S71)) (a1_0 : Int) (A1_1 : Option Addr) (c1_1 : Nat) (l1_1 : List ByteArray) (a1_2 : Int) (A1_3 : Option Addr) (c1_3 : Nat) (l1_3 : List (S71)) (r : Bool) (w : World) (hr0_1 : Kd.C Kd.string w A0_1 l0_1.length l0_1) (hc0_1 : l0_1.length ≤ c0_1) (hr0_3 : Kd.C k71 w A0_3 l0_3.length l0_3) (hc0_3 : l0_3.length ≤ c0_3) (hr1_1 : Kd.C Kd.string w A1_1 l1_1.length l1_1) (hc1_1 : l1_1.length ≤ c1_1) (hr1_3 : Kd.C k71 w A1_3 l1_3.length l1_3) (hc1_3 : l1_3.length ≤ c1_3) (h : columbaryref13_One.f k a0_0 l0_1 a0_2 l0_3 a1_0 l1_1 a1_2 l1_3 = some r) :
  Calls Try.prog 31 #[.agg #[.int .i64 a0_0, .slice A0_1 l0_1.length c0_1, .int .i64 a0_2, .slice A0_3 l0_3.length c0_3], .agg #[.int .i64 a1_0, .slice A1_1 l1_1.length c1_1, .int .i64 a1_2, .slice A1_3 l1_3.length c1_3]] w fun e w' => e = .returned (.bool r) ∧ Below w.heap.size w w' := by
 have hu39 := Try.underlying39
 have HR0_1 := Z0.mk hr0_1
 have HC0_1 := Z0.mk hc0_1
 clear hr0_1 hc0_1
 have HR0_3 := Z0.mk hr0_3
 have HC0_3 := Z0.mk hc0_3
 clear hr0_3 hc0_3
 have HR1_1 := Z0.mk hr1_1
 have HC1_1 := Z0.mk hc1_1
 clear hr1_1 hc1_1
 have HR1_3 := Z0.mk hr1_3
 have HC1_3 := Z0.mk hc1_3
 clear hr1_3 hc1_3
 have HB := Z0.mk (Below.refl w.heap.size w)
 have H : ((columbaryref13_OneKey.f k a0_0 l0_1 a0_2 l0_3 a1_0 l1_1 a1_2 l1_3).bind fun t240 => ((columbaryref12_Same.f k l0_3 l1_3).bind fun t241 => (if t240 = true then (if t241 = true then (some (a0_2 == a1_2)) else (some false)) else (some false)))) = some r := h
 clear h
 replace H := Option.bind_eq_some_iff.mp H
 obtain ⟨t240, A30, H⟩ := H
 replace H : ((columbaryref12_Same.f k l0_3 l1_3).bind fun t241 => (if t240 = true then (if t241 = true then (some (a0_2 == a1_2)) else (some false)) else (some false))) = some r := H
 have A3 := Z0.mk A30
 clear A30
 replace H := Option.bind_eq_some_iff.mp H
 obtain ⟨t241, A40, H⟩ := H
 replace H : (if t240 = true then (if t241 = true then (some (a0_2 == a1_2)) else (some false)) else (some false)) = some r := H
 have A4 := Z0.mk A40
 clear A40
 by_cases c5 : t240 = true
 ·subst c5
  have H1 : (if t241 = true then (some (a0_2 == a1_2)) else (some false)) = some r := by rw [if_pos rfl] at H; exact H
  clear H
  have H := H1
  clear H1
  by_cases c6 : t241 = true
  ·subst c6
   have H1 : (some (a0_2 == a1_2)) = some r := by rw [if_pos rfl] at H; exact H
   clear H
   have H := H1
   clear H1
   obtain rfl := Option.some.inj H
   go_enter Try.func31, Try.ntmps31
   go_wp2_with (first | ((with_reducible refine gate_dst (N := 2) rfl ?_); refine box_event ?hg (N := 2) ?hd (cs := #[.int .i64 a0_0, .slice A0_1 l0_1.length c0_1, .int .i64 a0_2, .slice A0_3 l0_3.length c0_3]) (t := 39) ?hr ?_; (case hd => rfl); (case hg => rfl); (case hr => first | (go_simp; done) | (go_simp; rfl)); intro gb238 hg w7 hbox hb; have n0_ := Z0.mk (below_step (by repeat (first | (with_reducible first | exact HB.out | apply beA | apply bpN | apply bd1) | exact HB.out)) hb); have n1_ := Z0.mk (hbox); have n2_ := Z0.mk ((by rw [hg]; exact (below_size (by repeat (first | (with_reducible first | exact HB.out | apply beA | apply bpN | apply bd1) | exact HB.out))) : w.heap.size ≤ gb238)); have n3_ := Z0.mk ((by rw [hg]; exact (below_size (by repeat (first | (with_reducible first | exact HB.out | apply beA | apply bpN | apply bd1) | exact HB.out))) : w.heap.size ≤ gb238)); clear HB; have HB := n0_; have BK238 := n1_; have GW238 := n2_; have GE238 := n3_; clear n0_ n1_ n2_ n3_; clear hb hbox hg) | ((with_reducible refine gate_dst (N := 3) rfl ?_); refine box_event ?hg (N := 3) ?hd (cs := #[.int .i64 a1_0, .slice A1_1 l1_1.length c1_1, .int .i64 a1_2, .slice A1_3 l1_3.length c1_3]) (t := 39) ?hr ?_; (case hd => rfl); (case hg => rfl); (case hr => first | (go_simp; done) | (go_simp; rfl)); intro gb239 hg w8 hbox hb; have n0_ := Z0.mk (blk_below (g := gb238) (o := .cells #[.int .i64 a0_0, .slice A0_1 l0_1.length c0_1, .int .i64 a0_2, .slice A0_3 l0_3.length c0_3] 39 (0, 0)) (by (with_reducible repeat (first | refine bDN ?_ _ | refine bDr ?_ | refine bAl ?_ _)); exact BK238.out) hb); have n1_ := Z0.mk (below_step (by repeat (first | (with_reducible first | exact HB.out | apply beA | apply bpN | apply bd1 | refine beS ?_ GE238.out) | exact HB.out)) hb); have n2_ := Z0.mk (hbox); have n3_ := Z0.mk ((by rw [hg]; exact (below_size (by repeat (first | (with_reducible first | exact HB.out | apply beA | apply bpN | apply bd1 | refine beS ?_ GE238.out) | exact HB.out))) : w.heap.size ≤ gb239)); have n4_ := Z0.mk ((by rw [hg]; exact (below_size (by repeat (first | (with_reducible first | exact HB.out | apply beA | apply bpN | apply bd1 | refine beS ?_ GE238.out) | exact HB.out))) : w.heap.size ≤ gb239)); have n5_ := Z0.mk ((by rw [hg]; exact Nat.ne_of_lt (blk_lt (g := gb238) (o := .cells #[.int .i64 a0_0, .slice A0_1 l0_1.length c0_1, .int .i64 a0_2, .slice A0_3 l0_3.length c0_3] 39 (0, 0)) (by (with_reducible repeat (first | refine bDN ?_ _ | refine bDr ?_ | refine bAl ?_ _)); exact BK238.out)) : gb238 ≠ gb239)); have n6_ := Z0.mk ((by rw [hg]; exact Nat.ne_of_gt (blk_lt (g := gb238) (o := .cells #[.int .i64 a0_0, .slice A0_1 l0_1.length c0_1, .int .i64 a0_2, .slice A0_3 l0_3.length c0_3] 39 (0, 0)) (by (with_reducible repeat (first | refine bDN ?_ _ | refine bDr ?_ | refine bAl ?_ _)); exact BK238.out)) : gb239 ≠ gb238)); clear BK238; clear HB; have BK238 := n0_; have HB := n1_; have BK239 := n2_; have GW239 := n3_; have GE239 := n4_; have NB238_239 := n5_; have NB239_238 := n6_; clear n0_ n1_ n2_ n3_ n4_ n5_ n6_; clear hb hbox hg; have hnb9 := NB238_239.out; have hnc9 := NB239_238.out; have hcz10_0 : w8.cell? ⟨gb238, 0, none⟩ = some (.int .i64 a0_0) := (bCe BK238.out 0).trans rfl; have hcz10_1 : w8.cell? ⟨gb238, 1, none⟩ = some (.slice A0_1 l0_1.length c0_1) := (bCe BK238.out 1).trans rfl; have hcz10_2 : w8.cell? ⟨gb238, 2, none⟩ = some (.int .i64 a0_2) := (bCe BK238.out 2).trans rfl; have hcz10_3 : w8.cell? ⟨gb238, 3, none⟩ = some (.slice A0_3 l0_3.length c0_3) := (bCe BK238.out 3).trans rfl; have hfz10_0 := bFz BK238.out 0; have hfz10_1 := bFz BK238.out 1; have hfz10_2 := bFz BK238.out 2; have hfz10_3 := bFz BK238.out 3; have hcz11_0 : w8.cell? ⟨gb239, 0, none⟩ = some (.int .i64 a1_0) := (bCe BK239.out 0).trans rfl; have hcz11_1 : w8.cell? ⟨gb239, 1, none⟩ = some (.slice A1_1 l1_1.length c1_1) := (bCe BK239.out 1).trans rfl; have hcz11_2 : w8.cell? ⟨gb239, 2, none⟩ = some (.int .i64 a1_2) := (bCe BK239.out 2).trans rfl; have hcz11_3 : w8.cell? ⟨gb239, 3, none⟩ = some (.slice A1_3 l1_3.length c1_3) := (bCe BK239.out 3).trans rfl; have hfz11_0 := bFz BK239.out 0; have hfz11_1 := bFz BK239.out 1; have hfz11_2 := bFz BK239.out 2; have hfz11_3 := bFz BK239.out 3) | ((with_reducible refine gate_callee (f := 30) rfl ?_); refine goesL_ (some 9) rfl rfl Try.func30 (by kernel_rfl) rfl #[.agg #[.int .i64 a0_0, .slice A0_1 l0_1.length c0_1, .int .i64 a0_2, .slice A0_3 l0_3.length c0_3], .agg #[.int .i64 a1_0, .slice A1_1 l1_1.length c1_1, .int .i64 a1_2, .slice A1_3 l1_3.length c1_3]] rfl (by (try simp only [List.map_toArray, List.map_cons, List.map_nil]); first | done | rfl | (simp only [List.length_drop, List.length_take]; rfl)) ?_; (with_reducible refine (columbaryref13_OneKey.calls k a0_0 _ _ l0_1 a0_2 _ _ l0_3 a1_0 _ _ l1_1 a1_2 _ _ l1_3 true _ ?side1 ?side2 ?side3 ?side4 ?side5 ?side6 ?side7 ?side8 A3.out).mono ?_); (case side1 => repeat (first | exact (Kd.C_below HR0_1.out HB.out) | (with_reducible refine Kd.C_alloc ?_ _) | (with_reducible refine Kd.C_drewN ?_ _) | (with_reducible refine Kd.C_drew ?_))); (case side2 => exact HC0_1.out); (case side3 => repeat (first | exact (Kd.C_below HR0_3.out HB.out) | (with_reducible refine Kd.C_alloc ?_ _) | (with_reducible refine Kd.C_drewN ?_ _) | (with_reducible refine Kd.C_drew ?_))); (case side4 => exact HC0_3.out); (case side5 => repeat (first | exact (Kd.C_below HR1_1.out HB.out) | (with_reducible refine Kd.C_alloc ?_ _) | (with_reducible refine Kd.C_drewN ?_ _) | (with_reducible refine Kd.C_drew ?_))); (case side6 => exact HC1_1.out); (case side7 => repeat (first | exact (Kd.C_below HR1_3.out HB.out) | (with_reducible refine Kd.C_alloc ?_ _) | (with_reducible refine Kd.C_drewN ?_ _) | (with_reducible refine Kd.C_drew ?_))); (case side8 => exact HC1_3.out); rintro e w12 ⟨rfl, hb⟩; refine ⟨_, rfl, ?_⟩; have n0_ := Z0.mk (blk_below (g := gb238) (o := .cells #[.int .i64 a0_0, .slice A0_1 l0_1.length c0_1, .int .i64 a0_2, .slice A0_3 l0_3.length c0_3] 39 (0, 0)) (by (with_reducible repeat (first | refine bDN ?_ _ | refine bDr ?_ | refine bAl ?_ _)); exact BK238.out) hb); have n1_ := Z0.mk (blk_below (g := gb239) (o := .cells #[.int .i64 a1_0, .slice A1_1 l1_1.length c1_1, .int .i64 a1_2, .slice A1_3 l1_3.length c1_3] 39 (0, 0)) (by (with_reducible repeat (first | refine bDN ?_ _ | refine bDr ?_ | refine bAl ?_ _)); exact BK239.out) hb); have n2_ := Z0.mk (below_step (by repeat (first | (with_reducible first | exact HB.out | apply beA | apply bpN | apply bd1 | refine beS ?_ GE238.out | refine beS ?_ GE239.out) | exact HB.out)) hb); clear BK238; clear BK239; clear HB; have BK238 := n0_; have BK239 := n1_; have HB := n2_; clear n0_ n1_ n2_; (try clear hb); (try clear hb2); (try clear hk); (try clear hi); have hcz13_0 : w12.cell? ⟨gb238, 0, none⟩ = some (.int .i64 a0_0) := (bCe BK238.out 0).trans rfl; have hcz13_1 : w12.cell? ⟨gb238, 1, none⟩ = some (.slice A0_1 l0_1.length c0_1) := (bCe BK238.out 1).trans rfl; have hcz13_2 : w12.cell? ⟨gb238, 2, none⟩ = some (.int .i64 a0_2) := (bCe BK238.out 2).trans rfl; have hcz13_3 : w12.cell? ⟨gb238, 3, none⟩ = some (.slice A0_3 l0_3.length c0_3) := (bCe BK238.out 3).trans rfl; have hfz13_0 := bFz BK238.out 0; have hfz13_1 := bFz BK238.out 1; have hfz13_2 := bFz BK238.out 2; have hfz13_3 := bFz BK238.out 3; have hcz14_0 : w12.cell? ⟨gb239, 0, none⟩ = some (.int .i64 a1_0) := (bCe BK239.out 0).trans rfl; have hcz14_1 : w12.cell? ⟨gb239, 1, none⟩ = some (.slice A1_1 l1_1.length c1_1) := (bCe BK239.out 1).trans rfl; have hcz14_2 : w12.cell? ⟨gb239, 2, none⟩ = some (.int .i64 a1_2) := (bCe BK239.out 2).trans rfl; have hcz14_3 : w12.cell? ⟨gb239, 3, none⟩ = some (.slice A1_3 l1_3.length c1_3) := (bCe BK239.out 3).trans rfl; have hfz14_0 := bFz BK239.out 0; have hfz14_1 := bFz BK239.out 1; have hfz14_2 := bFz BK239.out 2; have hfz14_3 := bFz BK239.out 3) | ((with_reducible refine gate_callee (f := 50) rfl ?_); refine goesL_ (some 14) rfl rfl Try.func50 (by kernel_rfl) rfl #[.slice A0_3 l0_3.length c0_3, .slice A1_3 l1_3.length c1_3] rfl (by (try simp only [List.map_toArray, List.map_cons, List.map_nil]); first | done | rfl | (simp only [List.length_drop, List.length_take]; rfl)) ?_; (with_reducible refine (columbaryref12_Same.calls k _ _ l0_3 _ _ l1_3 true _ ?side1 ?side2 ?side3 ?side4 A4.out).mono ?_); (case side1 => repeat (first | exact (Kd.C_below HR0_3.out HB.out) | (with_reducible refine Kd.C_alloc ?_ _) | (with_reducible refine Kd.C_drewN ?_ _) | (with_reducible refine Kd.C_drew ?_))); (case side2 => exact HC0_3.out); (case side3 => repeat (first | exact (Kd.C_below HR1_3.out HB.out) | (with_reducible refine Kd.C_alloc ?_ _) | (with_reducible refine Kd.C_drewN ?_ _) | (with_reducible refine Kd.C_drew ?_))); (case side4 => exact HC1_3.out); rintro e w' ⟨rfl, ⟨nd, rfl⟩⟩; refine ⟨_, rfl, ?_⟩))
   go_ret
   exact ⟨by first | rfl | (simp [errW_none, errW_some] <;> rfl) | (simp [*, errW_none, errW_some] <;> rfl), by repeat (first | (with_reducible first | exact HB.out | apply beA | apply bpN | apply bd1 | refine beS ?_ GE238.out | refine beS ?_ GE239.out) | exact HB.out)⟩
  ·replace c6 := Bool.eq_false_iff.mpr c6
   subst c6
   have H1 : (some false) = some r := by rw [if_neg (show ¬ (false = true) by decide)] at H; exact H
   clear H
   have H := H1
   clear H1
   obtain rfl := Option.some.inj H
   go_enter Try.func31, Try.ntmps31
   go_wp2_with (first | ((with_reducible refine gate_dst (N := 2) rfl ?_); refine box_event ?hg (N := 2) ?hd (cs := #[.int .i64 a0_0, .slice A0_1 l0_1.length c0_1, .int .i64 a0_2, .slice A0_3 l0_3.length c0_3]) (t := 39) ?hr ?_; (case hd => rfl); (case hg => rfl); (case hr => first | (go_simp; done) | (go_simp; rfl)); intro gb238 hg w15 hbox hb; have n0_ := Z0.mk (below_step (by repeat (first | (with_reducible first | exact HB.out | apply beA | apply bpN | apply bd1) | exact HB.out)) hb); have n1_ := Z0.mk (hbox); have n2_ := Z0.mk ((by rw [hg]; exact (below_size (by repeat (first | (with_reducible first | exact HB.out | apply beA | apply bpN | apply bd1) | exact HB.out))) : w.heap.size ≤ gb238)); have n3_ := Z0.mk ((by rw [hg]; exact (below_size (by repeat (first | (with_reducible first | exact HB.out | apply beA | apply bpN | apply bd1) | exact HB.out))) : w.heap.size ≤ gb238)); clear HB; have HB := n0_; have BK238 := n1_; have GW238 := n2_; have GE238 := n3_; clear n0_ n1_ n2_ n3_; clear hb hbox hg) | ((with_reducible refine gate_dst (N := 3) rfl ?_); refine box_event ?hg (N := 3) ?hd (cs := #[.int .i64 a1_0, .slice A1_1 l1_1.length c1_1, .int .i64 a1_2, .slice A1_3 l1_3.length c1_3]) (t := 39) ?hr ?_; (case hd => rfl); (case hg => rfl); (case hr => first | (go_simp; done) | (go_simp; rfl)); intro gb239 hg w16 hbox hb; have n0_ := Z0.mk (blk_below (g := gb238) (o := .cells #[.int .i64 a0_0, .slice A0_1 l0_1.length c0_1, .int .i64 a0_2, .slice A0_3 l0_3.length c0_3] 39 (0, 0)) (by (with_reducible repeat (first | refine bDN ?_ _ | refine bDr ?_ | refine bAl ?_ _)); exact BK238.out) hb); have n1_ := Z0.mk (below_step (by repeat (first | (with_reducible first | exact HB.out | apply beA | apply bpN | apply bd1 | refine beS ?_ GE238.out) | exact HB.out)) hb); have n2_ := Z0.mk (hbox); have n3_ := Z0.mk ((by rw [hg]; exact (below_size (by repeat (first | (with_reducible first | exact HB.out | apply beA | apply bpN | apply bd1 | refine beS ?_ GE238.out) | exact HB.out))) : w.heap.size ≤ gb239)); have n4_ := Z0.mk ((by rw [hg]; exact (below_size (by repeat (first | (with_reducible first | exact HB.out | apply beA | apply bpN | apply bd1 | refine beS ?_ GE238.out) | exact HB.out))) : w.heap.size ≤ gb239)); have n5_ := Z0.mk ((by rw [hg]; exact Nat.ne_of_lt (blk_lt (g := gb238) (o := .cells #[.int .i64 a0_0, .slice A0_1 l0_1.length c0_1, .int .i64 a0_2, .slice A0_3 l0_3.length c0_3] 39 (0, 0)) (by (with_reducible repeat (first | refine bDN ?_ _ | refine bDr ?_ | refine bAl ?_ _)); exact BK238.out)) : gb238 ≠ gb239)); have n6_ := Z0.mk ((by rw [hg]; exact Nat.ne_of_gt (blk_lt (g := gb238) (o := .cells #[.int .i64 a0_0, .slice A0_1 l0_1.length c0_1, .int .i64 a0_2, .slice A0_3 l0_3.length c0_3] 39 (0, 0)) (by (with_reducible repeat (first | refine bDN ?_ _ | refine bDr ?_ | refine bAl ?_ _)); exact BK238.out)) : gb239 ≠ gb238)); clear BK238; clear HB; have BK238 := n0_; have HB := n1_; have BK239 := n2_; have GW239 := n3_; have GE239 := n4_; have NB238_239 := n5_; have NB239_238 := n6_; clear n0_ n1_ n2_ n3_ n4_ n5_ n6_; clear hb hbox hg; have hnb17 := NB238_239.out; have hnc17 := NB239_238.out; have hcz18_0 : w16.cell? ⟨gb238, 0, none⟩ = some (.int .i64 a0_0) := (bCe BK238.out 0).trans rfl; have hcz18_1 : w16.cell? ⟨gb238, 1, none⟩ = some (.slice A0_1 l0_1.length c0_1) := (bCe BK238.out 1).trans rfl; have hcz18_2 : w16.cell? ⟨gb238, 2, none⟩ = some (.int .i64 a0_2) := (bCe BK238.out 2).trans rfl; have hcz18_3 : w16.cell? ⟨gb238, 3, none⟩ = some (.slice A0_3 l0_3.length c0_3) := (bCe BK238.out 3).trans rfl; have hfz18_0 := bFz BK238.out 0; have hfz18_1 := bFz BK238.out 1; have hfz18_2 := bFz BK238.out 2; have hfz18_3 := bFz BK238.out 3; have hcz19_0 : w16.cell? ⟨gb239, 0, none⟩ = some (.int .i64 a1_0) := (bCe BK239.out 0).trans rfl; have hcz19_1 : w16.cell? ⟨gb239, 1, none⟩ = some (.slice A1_1 l1_1.length c1_1) := (bCe BK239.out 1).trans rfl; have hcz19_2 : w16.cell? ⟨gb239, 2, none⟩ = some (.int .i64 a1_2) := (bCe BK239.out 2).trans rfl; have hcz19_3 : w16.cell? ⟨gb239, 3, none⟩ = some (.slice A1_3 l1_3.length c1_3) := (bCe BK239.out 3).trans rfl; have hfz19_0 := bFz BK239.out 0; have hfz19_1 := bFz BK239.out 1; have hfz19_2 := bFz BK239.out 2; have hfz19_3 := bFz BK239.out 3) | ((with_reducible refine gate_callee (f := 30) rfl ?_); refine goesL_ (some 9) rfl rfl Try.func30 (by kernel_rfl) rfl #[.agg #[.int .i64 a0_0, .slice A0_1 l0_1.length c0_1, .int .i64 a0_2, .slice A0_3 l0_3.length c0_3], .agg #[.int .i64 a1_0, .slice A1_1 l1_1.length c1_1, .int .i64 a1_2, .slice A1_3 l1_3.length c1_3]] rfl (by (try simp only [List.map_toArray, List.map_cons, List.map_nil]); first | done | rfl | (simp only [List.length_drop, List.length_take]; rfl)) ?_; (with_reducible refine (columbaryref13_OneKey.calls k a0_0 _ _ l0_1 a0_2 _ _ l0_3 a1_0 _ _ l1_1 a1_2 _ _ l1_3 true _ ?side1 ?side2 ?side3 ?side4 ?side5 ?side6 ?side7 ?side8 A3.out).mono ?_); (case side1 => repeat (first | exact (Kd.C_below HR0_1.out HB.out) | (with_reducible refine Kd.C_alloc ?_ _) | (with_reducible refine Kd.C_drewN ?_ _) | (with_reducible refine Kd.C_drew ?_))); (case side2 => exact HC0_1.out); (case side3 => repeat (first | exact (Kd.C_below HR0_3.out HB.out) | (with_reducible refine Kd.C_alloc ?_ _) | (with_reducible refine Kd.C_drewN ?_ _) | (with_reducible refine Kd.C_drew ?_))); (case side4 => exact HC0_3.out); (case side5 => repeat (first | exact (Kd.C_below HR1_1.out HB.out) | (with_reducible refine Kd.C_alloc ?_ _) | (with_reducible refine Kd.C_drewN ?_ _) | (with_reducible refine Kd.C_drew ?_))); (case side6 => exact HC1_1.out); (case side7 => repeat (first | exact (Kd.C_below HR1_3.out HB.out) | (with_reducible refine Kd.C_alloc ?_ _) | (with_reducible refine Kd.C_drewN ?_ _) | (with_reducible refine Kd.C_drew ?_))); (case side8 => exact HC1_3.out); rintro e w20 ⟨rfl, hb⟩; refine ⟨_, rfl, ?_⟩; have n0_ := Z0.mk (blk_below (g := gb238) (o := .cells #[.int .i64 a0_0, .slice A0_1 l0_1.length c0_1, .int .i64 a0_2, .slice A0_3 l0_3.length c0_3] 39 (0, 0)) (by (with_reducible repeat (first | refine bDN ?_ _ | refine bDr ?_ | refine bAl ?_ _)); exact BK238.out) hb); have n1_ := Z0.mk (blk_below (g := gb239) (o := .cells #[.int .i64 a1_0, .slice A1_1 l1_1.length c1_1, .int .i64 a1_2, .slice A1_3 l1_3.length c1_3] 39 (0, 0)) (by (with_reducible repeat (first | refine bDN ?_ _ | refine bDr ?_ | refine bAl ?_ _)); exact BK239.out) hb); have n2_ := Z0.mk (below_step (by repeat (first | (with_reducible first | exact HB.out | apply beA | apply bpN | apply bd1 | refine beS ?_ GE238.out | refine beS ?_ GE239.out) | exact HB.out)) hb); clear BK238; clear BK239; clear HB; have BK238 := n0_; have BK239 := n1_; have HB := n2_; clear n0_ n1_ n2_; (try clear hb); (try clear hb2); (try clear hk); (try clear hi); have hcz21_0 : w20.cell? ⟨gb238, 0, none⟩ = some (.int .i64 a0_0) := (bCe BK238.out 0).trans rfl; have hcz21_1 : w20.cell? ⟨gb238, 1, none⟩ = some (.slice A0_1 l0_1.length c0_1) := (bCe BK238.out 1).trans rfl; have hcz21_2 : w20.cell? ⟨gb238, 2, none⟩ = some (.int .i64 a0_2) := (bCe BK238.out 2).trans rfl; have hcz21_3 : w20.cell? ⟨gb238, 3, none⟩ = some (.slice A0_3 l0_3.length c0_3) := (bCe BK238.out 3).trans rfl; have hfz21_0 := bFz BK238.out 0; have hfz21_1 := bFz BK238.out 1; have hfz21_2 := bFz BK238.out 2; have hfz21_3 := bFz BK238.out 3; have hcz22_0 : w20.cell? ⟨gb239, 0, none⟩ = some (.int .i64 a1_0) := (bCe BK239.out 0).trans rfl; have hcz22_1 : w20.cell? ⟨gb239, 1, none⟩ = some (.slice A1_1 l1_1.length c1_1) := (bCe BK239.out 1).trans rfl; have hcz22_2 : w20.cell? ⟨gb239, 2, none⟩ = some (.int .i64 a1_2) := (bCe BK239.out 2).trans rfl; have hcz22_3 : w20.cell? ⟨gb239, 3, none⟩ = some (.slice A1_3 l1_3.length c1_3) := (bCe BK239.out 3).trans rfl; have hfz22_0 := bFz BK239.out 0; have hfz22_1 := bFz BK239.out 1; have hfz22_2 := bFz BK239.out 2; have hfz22_3 := bFz BK239.out 3) | ((with_reducible refine gate_callee (f := 50) rfl ?_); refine goesL_ (some 14) rfl rfl Try.func50 (by kernel_rfl) rfl #[.slice A0_3 l0_3.length c0_3, .slice A1_3 l1_3.length c1_3] rfl (by (try simp only [List.map_toArray, List.map_cons, List.map_nil]); first | done | rfl | (simp only [List.length_drop, List.length_take]; rfl)) ?_; (with_reducible refine (columbaryref12_Same.calls k _ _ l0_3 _ _ l1_3 false _ ?side1 ?side2 ?side3 ?side4 A4.out).mono ?_); (case side1 => repeat (first | exact (Kd.C_below HR0_3.out HB.out) | (with_reducible refine Kd.C_alloc ?_ _) | (with_reducible refine Kd.C_drewN ?_ _) | (with_reducible refine Kd.C_drew ?_))); (case side2 => exact HC0_3.out); (case side3 => repeat (first | exact (Kd.C_below HR1_3.out HB.out) | (with_reducible refine Kd.C_alloc ?_ _) | (with_reducible refine Kd.C_drewN ?_ _) | (with_reducible refine Kd.C_drew ?_))); (case side4 => exact HC1_3.out); rintro e w' ⟨rfl, ⟨nd, rfl⟩⟩; refine ⟨_, rfl, ?_⟩))
   go_ret
   exact ⟨by first | rfl | (simp [errW_none, errW_some] <;> rfl) | (simp [*, errW_none, errW_some] <;> rfl), by repeat (first | (with_reducible first | exact HB.out | apply beA | apply bpN | apply bd1 | refine beS ?_ GE238.out | refine beS ?_ GE239.out) | exact HB.out)⟩
 ·replace c5 := Bool.eq_false_iff.mpr c5
  subst c5
  have H1 : (some false) = some r := by rw [if_neg (show ¬ (false = true) by decide)] at H; exact H
  clear H
  have H := H1
  clear H1
  obtain rfl := Option.some.inj H
  go_enter Try.func31, Try.ntmps31
  go_wp2_with (first | ((with_reducible refine gate_dst (N := 2) rfl ?_); refine box_event ?hg (N := 2) ?hd (cs := #[.int .i64 a0_0, .slice A0_1 l0_1.length c0_1, .int .i64 a0_2, .slice A0_3 l0_3.length c0_3]) (t := 39) ?hr ?_; (case hd => rfl); (case hg => rfl); (case hr => first | (go_simp; done) | (go_simp; rfl)); intro gb238 hg w23 hbox hb; have n0_ := Z0.mk (below_step (by repeat (first | (with_reducible first | exact HB.out | apply beA | apply bpN | apply bd1) | exact HB.out)) hb); have n1_ := Z0.mk (hbox); have n2_ := Z0.mk ((by rw [hg]; exact (below_size (by repeat (first | (with_reducible first | exact HB.out | apply beA | apply bpN | apply bd1) | exact HB.out))) : w.heap.size ≤ gb238)); have n3_ := Z0.mk ((by rw [hg]; exact (below_size (by repeat (first | (with_reducible first | exact HB.out | apply beA | apply bpN | apply bd1) | exact HB.out))) : w.heap.size ≤ gb238)); clear HB; have HB := n0_; have BK238 := n1_; have GW238 := n2_; have GE238 := n3_; clear n0_ n1_ n2_ n3_; clear hb hbox hg) | ((with_reducible refine gate_dst (N := 3) rfl ?_); refine box_event ?hg (N := 3) ?hd (cs := #[.int .i64 a1_0, .slice A1_1 l1_1.length c1_1, .int .i64 a1_2, .slice A1_3 l1_3.length c1_3]) (t := 39) ?hr ?_; (case hd => rfl); (case hg => rfl); (case hr => first | (go_simp; done) | (go_simp; rfl)); intro gb239 hg w24 hbox hb; have n0_ := Z0.mk (blk_below (g := gb238) (o := .cells #[.int .i64 a0_0, .slice A0_1 l0_1.length c0_1, .int .i64 a0_2, .slice A0_3 l0_3.length c0_3] 39 (0, 0)) (by (with_reducible repeat (first | refine bDN ?_ _ | refine bDr ?_ | refine bAl ?_ _)); exact BK238.out) hb); have n1_ := Z0.mk (below_step (by repeat (first | (with_reducible first | exact HB.out | apply beA | apply bpN | apply bd1 | refine beS ?_ GE238.out) | exact HB.out)) hb); have n2_ := Z0.mk (hbox); have n3_ := Z0.mk ((by rw [hg]; exact (below_size (by repeat (first | (with_reducible first | exact HB.out | apply beA | apply bpN | apply bd1 | refine beS ?_ GE238.out) | exact HB.out))) : w.heap.size ≤ gb239)); have n4_ := Z0.mk ((by rw [hg]; exact (below_size (by repeat (first | (with_reducible first | exact HB.out | apply beA | apply bpN | apply bd1 | refine beS ?_ GE238.out) | exact HB.out))) : w.heap.size ≤ gb239)); have n5_ := Z0.mk ((by rw [hg]; exact Nat.ne_of_lt (blk_lt (g := gb238) (o := .cells #[.int .i64 a0_0, .slice A0_1 l0_1.length c0_1, .int .i64 a0_2, .slice A0_3 l0_3.length c0_3] 39 (0, 0)) (by (with_reducible repeat (first | refine bDN ?_ _ | refine bDr ?_ | refine bAl ?_ _)); exact BK238.out)) : gb238 ≠ gb239)); have n6_ := Z0.mk ((by rw [hg]; exact Nat.ne_of_gt (blk_lt (g := gb238) (o := .cells #[.int .i64 a0_0, .slice A0_1 l0_1.length c0_1, .int .i64 a0_2, .slice A0_3 l0_3.length c0_3] 39 (0, 0)) (by (with_reducible repeat (first | refine bDN ?_ _ | refine bDr ?_ | refine bAl ?_ _)); exact BK238.out)) : gb239 ≠ gb238)); clear BK238; clear HB; have BK238 := n0_; have HB := n1_; have BK239 := n2_; have GW239 := n3_; have GE239 := n4_; have NB238_239 := n5_; have NB239_238 := n6_; clear n0_ n1_ n2_ n3_ n4_ n5_ n6_; clear hb hbox hg; have hnb25 := NB238_239.out; have hnc25 := NB239_238.out; have hcz26_0 : w24.cell? ⟨gb238, 0, none⟩ = some (.int .i64 a0_0) := (bCe BK238.out 0).trans rfl; have hcz26_1 : w24.cell? ⟨gb238, 1, none⟩ = some (.slice A0_1 l0_1.length c0_1) := (bCe BK238.out 1).trans rfl; have hcz26_2 : w24.cell? ⟨gb238, 2, none⟩ = some (.int .i64 a0_2) := (bCe BK238.out 2).trans rfl; have hcz26_3 : w24.cell? ⟨gb238, 3, none⟩ = some (.slice A0_3 l0_3.length c0_3) := (bCe BK238.out 3).trans rfl; have hfz26_0 := bFz BK238.out 0; have hfz26_1 := bFz BK238.out 1; have hfz26_2 := bFz BK238.out 2; have hfz26_3 := bFz BK238.out 3; have hcz27_0 : w24.cell? ⟨gb239, 0, none⟩ = some (.int .i64 a1_0) := (bCe BK239.out 0).trans rfl; have hcz27_1 : w24.cell? ⟨gb239, 1, none⟩ = some (.slice A1_1 l1_1.length c1_1) := (bCe BK239.out 1).trans rfl; have hcz27_2 : w24.cell? ⟨gb239, 2, none⟩ = some (.int .i64 a1_2) := (bCe BK239.out 2).trans rfl; have hcz27_3 : w24.cell? ⟨gb239, 3, none⟩ = some (.slice A1_3 l1_3.length c1_3) := (bCe BK239.out 3).trans rfl; have hfz27_0 := bFz BK239.out 0; have hfz27_1 := bFz BK239.out 1; have hfz27_2 := bFz BK239.out 2; have hfz27_3 := bFz BK239.out 3) | ((with_reducible refine gate_callee (f := 30) rfl ?_); refine goesL_ (some 9) rfl rfl Try.func30 (by kernel_rfl) rfl #[.agg #[.int .i64 a0_0, .slice A0_1 l0_1.length c0_1, .int .i64 a0_2, .slice A0_3 l0_3.length c0_3], .agg #[.int .i64 a1_0, .slice A1_1 l1_1.length c1_1, .int .i64 a1_2, .slice A1_3 l1_3.length c1_3]] rfl (by (try simp only [List.map_toArray, List.map_cons, List.map_nil]); first | done | rfl | (simp only [List.length_drop, List.length_take]; rfl)) ?_; (with_reducible refine (columbaryref13_OneKey.calls k a0_0 _ _ l0_1 a0_2 _ _ l0_3 a1_0 _ _ l1_1 a1_2 _ _ l1_3 false _ ?side1 ?side2 ?side3 ?side4 ?side5 ?side6 ?side7 ?side8 A3.out).mono ?_); (case side1 => repeat (first | exact (Kd.C_below HR0_1.out HB.out) | (with_reducible refine Kd.C_alloc ?_ _) | (with_reducible refine Kd.C_drewN ?_ _) | (with_reducible refine Kd.C_drew ?_))); (case side2 => exact HC0_1.out); (case side3 => repeat (first | exact (Kd.C_below HR0_3.out HB.out) | (with_reducible refine Kd.C_alloc ?_ _) | (with_reducible refine Kd.C_drewN ?_ _) | (with_reducible refine Kd.C_drew ?_))); (case side4 => exact HC0_3.out); (case side5 => repeat (first | exact (Kd.C_below HR1_1.out HB.out) | (with_reducible refine Kd.C_alloc ?_ _) | (with_reducible refine Kd.C_drewN ?_ _) | (with_reducible refine Kd.C_drew ?_))); (case side6 => exact HC1_1.out); (case side7 => repeat (first | exact (Kd.C_below HR1_3.out HB.out) | (with_reducible refine Kd.C_alloc ?_ _) | (with_reducible refine Kd.C_drewN ?_ _) | (with_reducible refine Kd.C_drew ?_))); (case side8 => exact HC1_3.out); rintro e w28 ⟨rfl, hb⟩; refine ⟨_, rfl, ?_⟩; have n0_ := Z0.mk (blk_below (g := gb238) (o := .cells #[.int .i64 a0_0, .slice A0_1 l0_1.length c0_1, .int .i64 a0_2, .slice A0_3 l0_3.length c0_3] 39 (0, 0)) (by (with_reducible repeat (first | refine bDN ?_ _ | refine bDr ?_ | refine bAl ?_ _)); exact BK238.out) hb); have n1_ := Z0.mk (blk_below (g := gb239) (o := .cells #[.int .i64 a1_0, .slice A1_1 l1_1.length c1_1, .int .i64 a1_2, .slice A1_3 l1_3.length c1_3] 39 (0, 0)) (by (with_reducible repeat (first | refine bDN ?_ _ | refine bDr ?_ | refine bAl ?_ _)); exact BK239.out) hb); have n2_ := Z0.mk (below_step (by repeat (first | (with_reducible first | exact HB.out | apply beA | apply bpN | apply bd1 | refine beS ?_ GE238.out | refine beS ?_ GE239.out) | exact HB.out)) hb); clear BK238; clear BK239; clear HB; have BK238 := n0_; have BK239 := n1_; have HB := n2_; clear n0_ n1_ n2_; (try clear hb); (try clear hb2); (try clear hk); (try clear hi); have hcz29_0 : w28.cell? ⟨gb238, 0, none⟩ = some (.int .i64 a0_0) := (bCe BK238.out 0).trans rfl; have hcz29_1 : w28.cell? ⟨gb238, 1, none⟩ = some (.slice A0_1 l0_1.length c0_1) := (bCe BK238.out 1).trans rfl; have hcz29_2 : w28.cell? ⟨gb238, 2, none⟩ = some (.int .i64 a0_2) := (bCe BK238.out 2).trans rfl; have hcz29_3 : w28.cell? ⟨gb238, 3, none⟩ = some (.slice A0_3 l0_3.length c0_3) := (bCe BK238.out 3).trans rfl; have hfz29_0 := bFz BK238.out 0; have hfz29_1 := bFz BK238.out 1; have hfz29_2 := bFz BK238.out 2; have hfz29_3 := bFz BK238.out 3; have hcz30_0 : w28.cell? ⟨gb239, 0, none⟩ = some (.int .i64 a1_0) := (bCe BK239.out 0).trans rfl; have hcz30_1 : w28.cell? ⟨gb239, 1, none⟩ = some (.slice A1_1 l1_1.length c1_1) := (bCe BK239.out 1).trans rfl; have hcz30_2 : w28.cell? ⟨gb239, 2, none⟩ = some (.int .i64 a1_2) := (bCe BK239.out 2).trans rfl; have hcz30_3 : w28.cell? ⟨gb239, 3, none⟩ = some (.slice A1_3 l1_3.length c1_3) := (bCe BK239.out 3).trans rfl; have hfz30_0 := bFz BK239.out 0; have hfz30_1 := bFz BK239.out 1; have hfz30_2 := bFz BK239.out 2; have hfz30_3 := bFz BK239.out 3) | ((with_reducible refine gate_callee (f := 50) rfl ?_); refine goesL_ (some 14) rfl rfl Try.func50 (by kernel_rfl) rfl #[.slice A0_3 l0_3.length c0_3, .slice A1_3 l1_3.length c1_3] rfl (by (try simp only [List.map_toArray, List.map_cons, List.map_nil]); first | done | rfl | (simp only [List.length_drop, List.length_take]; rfl)) ?_; (with_reducible refine (columbaryref12_Same.calls k _ _ l0_3 _ _ l1_3 t241 _ ?side1 ?side2 ?side3 ?side4 A4.out).mono ?_); (case side1 => repeat (first | exact (Kd.C_below HR0_3.out HB.out) | (with_reducible refine Kd.C_alloc ?_ _) | (with_reducible refine Kd.C_drewN ?_ _) | (with_reducible refine Kd.C_drew ?_))); (case side2 => exact HC0_3.out); (case side3 => repeat (first | exact (Kd.C_below HR1_3.out HB.out) | (with_reducible refine Kd.C_alloc ?_ _) | (with_reducible refine Kd.C_drewN ?_ _) | (with_reducible refine Kd.C_drew ?_))); (case side4 => exact HC1_3.out); rintro e w' ⟨rfl, ⟨nd, rfl⟩⟩; refine ⟨_, rfl, ?_⟩))
  go_ret
  exact ⟨by first | rfl | (simp [errW_none, errW_some] <;> rfl) | (simp [*, errW_none, errW_some] <;> rfl), by repeat (first | (with_reducible first | exact HB.out | apply beA | apply bpN | apply bd1 | refine beS ?_ GE238.out | refine beS ?_ GE239.out) | exact HB.out)⟩
end Go.Proofs.Ytdeeffahfkndkaa.P
namespace Go.Proofs.Ytdeeffahfkndkaa.P
open Go.RowKit Go.Proofs.YtdeeffahfkndkaaW.PrintWords Go.Proofs.YtdeeffahfkndkaaW.PrintLast Go.Proofs.YtdeeffahfkndkaaW.PrintMore
attribute [local go_sem] max2_int min2_int max_two min_two max_three min_three max_four min_four
set_option linter.unusedVariables false
set_option linter.unusedSimpArgs false
def columbaryref13_Same.l0 : Nat → List (S39) → List (S39) → Int → Option (Bool)
 | 0, _, _, _ => none
 | k + 1, x0, x1, x5 => if x5 < (x0.length : Int) then (if 0 ≤ x5 then (if x5 < (x1.length : Int) then ((columbaryref13_One.f k ((rd_T39 x0 x5).f0) ((rd_T39 x0 x5).f1) ((rd_T39 x0 x5).f2) ((rd_T39 x0 x5).f3) ((rd_T39 x1 x5).f0) ((rd_T39 x1 x5).f1) ((rd_T39 x1 x5).f2) ((rd_T39 x1 x5).f3)).bind fun t244 => (if t244 = true then (columbaryref13_Same.l0 k x0 x1 (wrap64 (x5 + 1))) else (some false))) else (none)) else (none)) else (some true)
def columbaryref13_Same.f (k : Nat) (l0 : List (S39)) (l1 : List (S39)) : Option (Bool) := if (l0.length : Int) = (l1.length : Int) then (columbaryref13_Same.l0 k l0 l1 0) else (some false)
def columbaryref13_Same.T6 : Bool × List (List Nat × List Nat) := (true, [([], []), ([], []), ([0, 1], [0, 1]), ([2], [2]), ([], []), ([], []), ([4, 5], [4, 5]), ([6], [6]), ([3, 7], [3, 7]), ([8, 8, 0, 1, 2, 3, 4, 5, 6, 7, 8], [8])])
def columbaryref13_Same.B6 : List Nat := [0, 0, 3, 7, 0, 0, 48, 112, 255, 511]
theorem columbaryref13_Same.tab6 : rtab .any (opsOf Try.f13 6) = columbaryref13_Same.T6 := by kernel_rfl
theorem columbaryref13_Same.bits6 : waitsOk columbaryref13_Same.T6.2 columbaryref13_Same.B6 = true := by kernel_rfl
set_option maxHeartbeats 8000000 in
set_option maxRecDepth 100000 in
theorem columbaryref13_Same.calls (k : Nat) (A0 : Option Addr) (c0 : Nat) (l0 : List (S39)) (A1 : Option Addr) (c1 : Nat) (l1 : List (S39)) (r : Bool) (w : World) (hr0 : Kd.C k39 w A0 l0.length l0) (hc0 : l0.length ≤ c0) (hr1 : Kd.C k39 w A1 l1.length l1) (hc1 : l1.length ≤ c1) (h : columbaryref13_Same.f k l0 l1 = some r) :
  Calls Try.prog 13 #[.slice A0 l0.length c0, .slice A1 l1.length c1] w fun e w' => e = .returned (.bool r) ∧ Below w.heap.size w w' := by
 have hu39 := Try.underlying39
 have HR0 := Z0.mk hr0
 have HC0 := Z0.mk hc0
 clear hr0 hc0
 have HR1 := Z0.mk hr1
 have HC1 := Z0.mk hc1
 clear hr1 hc1
 have HB := Z0.mk (Below.refl w.heap.size w)
 have H : (if (l0.length : Int) = (l1.length : Int) then (columbaryref13_Same.l0 k l0 l1 0) else (some false)) = some r := h
 clear h
 by_cases c3 : (l0.length : Int) = (l1.length : Int)
 ·rw [if_pos c3] at H
  have c3b0 : ((l0.length : Int) == (l1.length : Int)) = true := beq_iff_eq.mpr c3
  have c3b1 : ((l0.length : Int) != (l1.length : Int)) = false := bne_eq_false_iff_eq.mpr c3
  have c3b2 : (l0.length == l1.length) = true := by first | simpa using c3 | (simp at c3 ⊢; omega)
  clear c3
  have H' := Z0.mk H
  clear H
  go_enter Try.func13, Try.ntmps13
  go_wp2
  go_loopg [5] k (fun kq v5 w' => ∃ (x5_1 : Int), v5 = .int .i64 x5_1 ∧ Z0 (columbaryref13_Same.l0 kq l0 l1 x5_1 = some r) ∧ Z0 (kq ≤ k) ∧ Z0 (Below w.heap.size w w'))
  case atStart => exact ⟨(0), (by first | rfl | (simp; done) | (simp [*]; done)), H', ⟨Nat.le_refl _⟩, ⟨by repeat (first | (with_reducible first | exact HB.out | apply beA | apply bpN | apply bd1) | exact HB.out)⟩⟩
  case round =>
   clear H'
   try clear c1
   try clear p2
   try clear c3
   try clear c3b0
   try clear c3b1
   try clear c3b2
   obtain ⟨x5_1, rfl, HA, HK1, HB⟩ := hrel
   cases gk with
   | zero => exact absurd HA.out (by simp [columbaryref13_Same.l0])
   | succ k1 =>
    have H := HA.out
    clear HA
    simp only [columbaryref13_Same.l0] at H
    by_cases c4 : x5_1 < (l0.length : Int)
    ·rw [if_pos c4] at H
     have c4b0 : decide (x5_1 < (l0.length : Int)) = true := decide_eq_true c4
     clear c4
     by_cases c5 : 0 ≤ x5_1
     ·rw [if_pos c5] at H
      have c5b0 : decide (0 ≤ x5_1) = true := decide_eq_true c5
      clear c5
      by_cases c6 : x5_1 < (l1.length : Int)
      ·rw [if_pos c6] at H
       have c6b0 : decide (x5_1 < (l1.length : Int)) = true := decide_eq_true c6
       clear c6
       replace H := Option.bind_eq_some_iff.mp H
       obtain ⟨t244, A70, H⟩ := H
       replace H : (if t244 = true then (columbaryref13_Same.l0 k1 l0 l1 (wrap64 (x5_1 + 1))) else (some false)) = some r := H
       have A7 := Z0.mk A70
       clear A70
       by_cases c8 : t244 = true
       ·subst c8
        have H1 : (columbaryref13_Same.l0 k1 l0 l1 (wrap64 (x5_1 + 1))) = some r := by rw [if_pos rfl] at H; exact H
        clear H
        have H := H1
        clear H1
        have H' := Z0.mk H
        clear H
        try go_wp2
        have n0_ := Z0.mk (bd1 HB.out)
        clear HB
        have HB := n0_
        clear n0_
        have p242 : 0 ≤ (x5_1 : Int) := of_decide_eq_true (by first | (with_reducible assumption) | assumption)
        have q242 : x5_1 < (l0.length : Int) := of_decide_eq_true (by first | (with_reducible assumption) | assumption)
        obtain ⟨ad242, A242_1, c242_1, A242_3, c242_3, e242, hx242_0, hx242_1, hx242_2, hx242_3, hl242_1, hi242_1, hl242_3, hi242_3⟩ := at_T39 HR0.out x5_1 p242 q242
        have hw242_3 := hx242_3
        have hw242_2 := hx242_2
        have hw242_1 := hx242_1
        have hw242_0 := hx242_0
        cases e242
        replace hx242_0 := (HB.out.cell (World.block_lt_of_cell? w _ hx242_0)).trans hx242_0
        replace hx242_1 := (HB.out.cell (World.block_lt_of_cell? w _ hx242_1)).trans hx242_1
        replace hx242_2 := (HB.out.cell (World.block_lt_of_cell? w _ hx242_2)).trans hx242_2
        replace hx242_3 := (HB.out.cell (World.block_lt_of_cell? w _ hx242_3)).trans hx242_3
        have HR242_1 := Z0.mk hi242_1
        have HC242_1 := Z0.mk hl242_1
        clear hi242_1 hl242_1
        have HR242_3 := Z0.mk hi242_3
        have HC242_3 := Z0.mk hl242_3
        clear hi242_3 hl242_3
        replace p242 := eq_true p242
        replace q242 := eq_true q242
        have p243 : 0 ≤ (x5_1 : Int) := of_decide_eq_true (by first | (with_reducible assumption) | assumption)
        have q243 : x5_1 < (l1.length : Int) := of_decide_eq_true (by first | (with_reducible assumption) | assumption)
        obtain ⟨ad243, A243_1, c243_1, A243_3, c243_3, e243, hx243_0, hx243_1, hx243_2, hx243_3, hl243_1, hi243_1, hl243_3, hi243_3⟩ := at_T39 HR1.out x5_1 p243 q243
        have hw243_3 := hx243_3
        have hw243_2 := hx243_2
        have hw243_1 := hx243_1
        have hw243_0 := hx243_0
        cases e243
        replace hx243_0 := (HB.out.cell (World.block_lt_of_cell? w _ hx243_0)).trans hx243_0
        replace hx243_1 := (HB.out.cell (World.block_lt_of_cell? w _ hx243_1)).trans hx243_1
        replace hx243_2 := (HB.out.cell (World.block_lt_of_cell? w _ hx243_2)).trans hx243_2
        replace hx243_3 := (HB.out.cell (World.block_lt_of_cell? w _ hx243_3)).trans hx243_3
        have HR243_1 := Z0.mk hi243_1
        have HC243_1 := Z0.mk hl243_1
        clear hi243_1 hl243_1
        have HR243_3 := Z0.mk hi243_3
        have HC243_3 := Z0.mk hl243_3
        clear hi243_3 hl243_3
        replace p243 := eq_true p243
        replace q243 := eq_true q243
        refine start_ (n := 10) (S := fun w' => w'.cell? (ad242.add ((x5_1).toNat * 4)) = some (.int .i64 ((rd_T39 l0 x5_1).f0)) ∧ w'.cell? ⟨(ad242.add ((x5_1).toNat * 4)).block, (ad242.add ((x5_1).toNat * 4)).off + 1, none⟩ = some (.slice A242_1 ((rd_T39 l0 x5_1).f1).length c242_1) ∧ w'.cell? ⟨(ad242.add ((x5_1).toNat * 4)).block, (ad242.add ((x5_1).toNat * 4)).off + 2, none⟩ = some (.int .i64 ((rd_T39 l0 x5_1).f2)) ∧ w'.cell? ⟨(ad242.add ((x5_1).toNat * 4)).block, (ad242.add ((x5_1).toNat * 4)).off + 3, none⟩ = some (.slice A242_3 ((rd_T39 l0 x5_1).f3).length c242_3) ∧ w'.cell? (ad243.add ((x5_1).toNat * 4)) = some (.int .i64 ((rd_T39 l1 x5_1).f0)) ∧ w'.cell? ⟨(ad243.add ((x5_1).toNat * 4)).block, (ad243.add ((x5_1).toNat * 4)).off + 1, none⟩ = some (.slice A243_1 ((rd_T39 l1 x5_1).f1).length c243_1) ∧ w'.cell? ⟨(ad243.add ((x5_1).toNat * 4)).block, (ad243.add ((x5_1).toNat * 4)).off + 2, none⟩ = some (.int .i64 ((rd_T39 l1 x5_1).f2)) ∧ w'.cell? ⟨(ad243.add ((x5_1).toNat * 4)).block, (ad243.add ((x5_1).toNat * 4)).off + 3, none⟩ = some (.slice A243_3 ((rd_T39 l1 x5_1).f3).length c243_3)) (ds := []) #[false, false, false, false, false, false, false, false, false, false] (by kernel_rfl) rfl rfl ⟨((HB.out.cell (World.block_lt_of_cell? w _ hw242_0)).trans hw242_0), ((HB.out.cell (World.block_lt_of_cell? w _ hw242_1)).trans hw242_1), ((HB.out.cell (World.block_lt_of_cell? w _ hw242_2)).trans hw242_2), ((HB.out.cell (World.block_lt_of_cell? w _ hw242_3)).trans hw242_3), ((HB.out.cell (World.block_lt_of_cell? w _ hw243_0)).trans hw243_0), ((HB.out.cell (World.block_lt_of_cell? w _ hw243_1)).trans hw243_1), ((HB.out.cell (World.block_lt_of_cell? w _ hw243_2)).trans hw243_2), ((HB.out.cell (World.block_lt_of_cell? w _ hw243_3)).trans hw243_3)⟩ (fun hHeld => ?_); refine with_tabW columbaryref13_Same.tab6 columbaryref13_Same.bits6 (fun HT_ HW_ => ?_)
        generalize wr.drew = w9 at HB HR242_1 HR242_3 HR243_1 HR243_3 hx242_0 hx242_1 hx242_2 hx242_3 hx243_0 hx243_1 hx243_2 hx243_3 hHeld ⊢
        refine pure_ (i := 0) (N := some 18) (v := ?_) (a' := ?_) #[true, false, false, false, false, false, false, false, false, false] rfl rfl (any_of HT_.out (by kernel_rfl)) (fun _ _ _ h => h) (Or.inl ⟨by rfl, ?_⟩) ?_ ?_
        rotate_left
        ·intro w'
         go_simp
         with_reducible rfl
        rotate_left
        ·simp only [Act.put, qA, qB, qC, i64_w, i32_w]
         rfl
        refine pure_ (i := 1) (N := some 19) (v := ?_) (a' := ?_) #[true, true, false, false, false, false, false, false, false, false] rfl rfl (any_of HT_.out (by kernel_rfl)) (fun _ _ _ h => h) (Or.inl ⟨by rfl, ?_⟩) ?_ ?_
        rotate_left
        ·intro w'
         go_simp
         with_reducible rfl
        rotate_left
        ·simp only [Act.put, qA, qB, qC, i64_w, i32_w]
         rfl
        refine pure_ (i := 2) (N := some 20) (v := ?_) (a' := ?_) #[true, true, true, false, false, false, false, false, false, false] rfl rfl (any_of HT_.out (by kernel_rfl)) (fun _ _ _ h => h) (Or.inl ⟨by rfl, ?_⟩) ?_ ?_
        rotate_left
        ·intro w'
         go_simp
         with_reducible rfl
        rotate_left
        ·simp only [Act.put, qA, qB, qC, i64_w, i32_w]
         rfl
        refine pure_ (i := 4) (N := some 22) (v := ?_) (a' := ?_) #[true, true, true, false, true, false, false, false, false, false] rfl rfl (any_of HT_.out (by kernel_rfl)) (fun _ _ _ h => h) (Or.inl ⟨by rfl, ?_⟩) ?_ ?_
        rotate_left
        ·intro w'
         go_simp
         with_reducible rfl
        rotate_left
        ·simp only [Act.put, qA, qB, qC, i64_w, i32_w]
         rfl
        refine pure_ (i := 5) (N := some 23) (v := ?_) (a' := ?_) #[true, true, true, false, true, true, false, false, false, false] rfl rfl (any_of HT_.out (by kernel_rfl)) (fun _ _ _ h => h) (Or.inl ⟨by rfl, ?_⟩) ?_ ?_
        rotate_left
        ·intro w'
         go_simp
         with_reducible rfl
        rotate_left
        ·simp only [Act.put, qA, qB, qC, i64_w, i32_w]
         rfl
        refine pure_ (i := 6) (N := some 24) (v := ?_) (a' := ?_) #[true, true, true, false, true, true, true, false, false, false] rfl rfl (any_of HT_.out (by kernel_rfl)) (fun _ _ _ h => h) (Or.inl ⟨by rfl, ?_⟩) ?_ ?_
        rotate_left
        ·intro w'
         go_simp
         with_reducible rfl
        rotate_left
        ·simp only [Act.put, qA, qB, qC, i64_w, i32_w]
         rfl
        refine take_ (i := 3) (N := some 21) (v := ?_) (a' := ?_) #[true, true, true, true, true, true, true, false, false, false] rfl rfl (take_ofW HT_.out HW_.out (by kernel_rfl)) (fun _ _ _ h => h) (Or.inl ⟨by rfl, ?_⟩) hHeld ?_ ?_
        rotate_left
        ·rintro w' ⟨s0, s1, s2, s3, s4, s5, s6, s7⟩
         go_simp
         with_reducible rfl
        rotate_left
        ·simp only [Act.put, qA, qB, qC, i64_w, i32_w]
         rfl
        refine take_ (i := 7) (N := some 25) (v := ?_) (a' := ?_) #[true, true, true, true, true, true, true, true, false, false] rfl rfl (take_ofW HT_.out HW_.out (by kernel_rfl)) (fun _ _ _ h => h) (Or.inl ⟨by rfl, ?_⟩) hHeld ?_ ?_
        rotate_left
        ·rintro w' ⟨s0, s1, s2, s3, s4, s5, s6, s7⟩
         go_simp
         with_reducible rfl
        rotate_left
        ·simp only [Act.put, qA, qB, qC, i64_w, i32_w]
         rfl
        refine one_ (i := 8) (N := some 26) #[true, true, true, true, true, true, true, true, true, false] rfl rfl (one_of HT_.out (by kernel_rfl)) (by decide) (fun K hK => ?_)
        refine goes_ Try.func31 (by kernel_rfl) rfl #[.agg #[.int .i64 ((rd_T39 l0 x5_1).f0), .slice A242_1 ((rd_T39 l0 x5_1).f1).length c242_1, .int .i64 ((rd_T39 l0 x5_1).f2), .slice A242_3 ((rd_T39 l0 x5_1).f3).length c242_3], .agg #[.int .i64 ((rd_T39 l1 x5_1).f0), .slice A243_1 ((rd_T39 l1 x5_1).f1).length c243_1, .int .i64 ((rd_T39 l1 x5_1).f2), .slice A243_3 ((rd_T39 l1 x5_1).f3).length c243_3]] (by rfl) rfl rfl (by (try simp only [List.map_toArray, List.map_cons, List.map_nil]); first | done | rfl | (simp only [List.length_drop, List.length_take]; rfl)) ?_
        with_reducible refine (columbaryref13_One.calls k1 ((rd_T39 l0 x5_1).f0) _ _ ((rd_T39 l0 x5_1).f1) ((rd_T39 l0 x5_1).f2) _ _ ((rd_T39 l0 x5_1).f3) ((rd_T39 l1 x5_1).f0) _ _ ((rd_T39 l1 x5_1).f1) ((rd_T39 l1 x5_1).f2) _ _ ((rd_T39 l1 x5_1).f3) true _ ?side1 ?side2 ?side3 ?side4 ?side5 ?side6 ?side7 ?side8 A7.out).mono ?_
        (case side1 => repeat (first | exact (Kd.C_below HR242_1.out HB.out) | (with_reducible refine Kd.C_alloc ?_ _) | (with_reducible refine Kd.C_drewN ?_ _) | (with_reducible refine Kd.C_drew ?_)))
        (case side2 => exact HC242_1.out)
        (case side3 => repeat (first | exact (Kd.C_below HR242_3.out HB.out) | (with_reducible refine Kd.C_alloc ?_ _) | (with_reducible refine Kd.C_drewN ?_ _) | (with_reducible refine Kd.C_drew ?_)))
        (case side4 => exact HC242_3.out)
        (case side5 => repeat (first | exact (Kd.C_below HR243_1.out HB.out) | (with_reducible refine Kd.C_alloc ?_ _) | (with_reducible refine Kd.C_drewN ?_ _) | (with_reducible refine Kd.C_drew ?_)))
        (case side6 => exact HC243_1.out)
        (case side7 => repeat (first | exact (Kd.C_below HR243_3.out HB.out) | (with_reducible refine Kd.C_alloc ?_ _) | (with_reducible refine Kd.C_drewN ?_ _) | (with_reducible refine Kd.C_drew ?_)))
        (case side8 => exact HC243_3.out)
        rintro e w10 ⟨rfl, hb⟩
        refine ⟨_, rfl, ?_⟩
        have n0_ := Z0.mk (below_step (by repeat (first | (with_reducible first | exact HB.out | apply beA | apply bpN | apply bd1) | exact HB.out)) hb)
        clear HB
        have HB := n0_
        clear n0_
        (try clear hb)
        (try clear hb2)
        (try clear hk)
        (try clear hi)
        refine hK.out _ _ ⟨((HB.out.cell (World.block_lt_of_cell? w _ hw242_0)).trans hw242_0), ((HB.out.cell (World.block_lt_of_cell? w _ hw242_1)).trans hw242_1), ((HB.out.cell (World.block_lt_of_cell? w _ hw242_2)).trans hw242_2), ((HB.out.cell (World.block_lt_of_cell? w _ hw242_3)).trans hw242_3), ((HB.out.cell (World.block_lt_of_cell? w _ hw243_0)).trans hw243_0), ((HB.out.cell (World.block_lt_of_cell? w _ hw243_1)).trans hw243_1), ((HB.out.cell (World.block_lt_of_cell? w _ hw243_2)).trans hw243_2), ((HB.out.cell (World.block_lt_of_cell? w _ hw243_3)).trans hw243_3)⟩ (fun hHeld => ?_)
        clear hK K
        refine norm_ (a' := ?_) ?_ ?_
        rotate_left
        ·show Act.put _ (some 26) _ = _
         simp only [Act.put, qA, qB, qC, i64_w, i32_w]
         rfl
        refine pure_ (i := 9) (N := some 6) (v := ?_) (a' := ?_) #[true, true, true, true, true, true, true, true, true, true] rfl rfl (any_of HT_.out (by kernel_rfl)) (fun _ _ _ h => h) (Or.inl ⟨by rfl, ?_⟩) ?_ ?_
        rotate_left
        ·intro w'
         go_simp
         with_reducible rfl
        rotate_left
        ·simp only [Act.put, qA, qB, qC, i64_w, i32_w]
         rfl
        refine done_ (done_of HT_.out (by kernel_rfl)) ?_
        try go_wp2
        go_roundg k1
        case measure => have := HK1.out; omega
        case rel => exact ⟨(wrap64 (x5_1 + 1)), (by first | rfl | (simp; done) | (simp [*]; done)), H', ⟨by have := HK1.out; omega⟩, ⟨by repeat (first | (with_reducible first | exact HB.out | apply beA | apply bpN | apply bd1) | exact HB.out)⟩⟩
       ·replace c8 := Bool.eq_false_iff.mpr c8
        subst c8
        have H1 : (some false) = some r := by rw [if_neg (show ¬ (false = true) by decide)] at H; exact H
        clear H
        have H := H1
        clear H1
        obtain rfl := Option.some.inj H
        try go_wp2
        have n0_ := Z0.mk (bd1 HB.out)
        clear HB
        have HB := n0_
        clear n0_
        have p242 : 0 ≤ (x5_1 : Int) := of_decide_eq_true (by first | (with_reducible assumption) | assumption)
        have q242 : x5_1 < (l0.length : Int) := of_decide_eq_true (by first | (with_reducible assumption) | assumption)
        obtain ⟨ad242, A242_1, c242_1, A242_3, c242_3, e242, hx242_0, hx242_1, hx242_2, hx242_3, hl242_1, hi242_1, hl242_3, hi242_3⟩ := at_T39 HR0.out x5_1 p242 q242
        have hw242_3 := hx242_3
        have hw242_2 := hx242_2
        have hw242_1 := hx242_1
        have hw242_0 := hx242_0
        cases e242
        replace hx242_0 := (HB.out.cell (World.block_lt_of_cell? w _ hx242_0)).trans hx242_0
        replace hx242_1 := (HB.out.cell (World.block_lt_of_cell? w _ hx242_1)).trans hx242_1
        replace hx242_2 := (HB.out.cell (World.block_lt_of_cell? w _ hx242_2)).trans hx242_2
        replace hx242_3 := (HB.out.cell (World.block_lt_of_cell? w _ hx242_3)).trans hx242_3
        have HR242_1 := Z0.mk hi242_1
        have HC242_1 := Z0.mk hl242_1
        clear hi242_1 hl242_1
        have HR242_3 := Z0.mk hi242_3
        have HC242_3 := Z0.mk hl242_3
        clear hi242_3 hl242_3
        replace p242 := eq_true p242
        replace q242 := eq_true q242
        have p243 : 0 ≤ (x5_1 : Int) := of_decide_eq_true (by first | (with_reducible assumption) | assumption)
        have q243 : x5_1 < (l1.length : Int) := of_decide_eq_true (by first | (with_reducible assumption) | assumption)
        obtain ⟨ad243, A243_1, c243_1, A243_3, c243_3, e243, hx243_0, hx243_1, hx243_2, hx243_3, hl243_1, hi243_1, hl243_3, hi243_3⟩ := at_T39 HR1.out x5_1 p243 q243
        have hw243_3 := hx243_3
        have hw243_2 := hx243_2
        have hw243_1 := hx243_1
        have hw243_0 := hx243_0
        cases e243
        replace hx243_0 := (HB.out.cell (World.block_lt_of_cell? w _ hx243_0)).trans hx243_0
        replace hx243_1 := (HB.out.cell (World.block_lt_of_cell? w _ hx243_1)).trans hx243_1
        replace hx243_2 := (HB.out.cell (World.block_lt_of_cell? w _ hx243_2)).trans hx243_2
        replace hx243_3 := (HB.out.cell (World.block_lt_of_cell? w _ hx243_3)).trans hx243_3
        have HR243_1 := Z0.mk hi243_1
        have HC243_1 := Z0.mk hl243_1
        clear hi243_1 hl243_1
        have HR243_3 := Z0.mk hi243_3
        have HC243_3 := Z0.mk hl243_3
        clear hi243_3 hl243_3
        replace p243 := eq_true p243
        replace q243 := eq_true q243
        refine start_ (n := 10) (S := fun w' => w'.cell? (ad242.add ((x5_1).toNat * 4)) = some (.int .i64 ((rd_T39 l0 x5_1).f0)) ∧ w'.cell? ⟨(ad242.add ((x5_1).toNat * 4)).block, (ad242.add ((x5_1).toNat * 4)).off + 1, none⟩ = some (.slice A242_1 ((rd_T39 l0 x5_1).f1).length c242_1) ∧ w'.cell? ⟨(ad242.add ((x5_1).toNat * 4)).block, (ad242.add ((x5_1).toNat * 4)).off + 2, none⟩ = some (.int .i64 ((rd_T39 l0 x5_1).f2)) ∧ w'.cell? ⟨(ad242.add ((x5_1).toNat * 4)).block, (ad242.add ((x5_1).toNat * 4)).off + 3, none⟩ = some (.slice A242_3 ((rd_T39 l0 x5_1).f3).length c242_3) ∧ w'.cell? (ad243.add ((x5_1).toNat * 4)) = some (.int .i64 ((rd_T39 l1 x5_1).f0)) ∧ w'.cell? ⟨(ad243.add ((x5_1).toNat * 4)).block, (ad243.add ((x5_1).toNat * 4)).off + 1, none⟩ = some (.slice A243_1 ((rd_T39 l1 x5_1).f1).length c243_1) ∧ w'.cell? ⟨(ad243.add ((x5_1).toNat * 4)).block, (ad243.add ((x5_1).toNat * 4)).off + 2, none⟩ = some (.int .i64 ((rd_T39 l1 x5_1).f2)) ∧ w'.cell? ⟨(ad243.add ((x5_1).toNat * 4)).block, (ad243.add ((x5_1).toNat * 4)).off + 3, none⟩ = some (.slice A243_3 ((rd_T39 l1 x5_1).f3).length c243_3)) (ds := []) #[false, false, false, false, false, false, false, false, false, false] (by kernel_rfl) rfl rfl ⟨((HB.out.cell (World.block_lt_of_cell? w _ hw242_0)).trans hw242_0), ((HB.out.cell (World.block_lt_of_cell? w _ hw242_1)).trans hw242_1), ((HB.out.cell (World.block_lt_of_cell? w _ hw242_2)).trans hw242_2), ((HB.out.cell (World.block_lt_of_cell? w _ hw242_3)).trans hw242_3), ((HB.out.cell (World.block_lt_of_cell? w _ hw243_0)).trans hw243_0), ((HB.out.cell (World.block_lt_of_cell? w _ hw243_1)).trans hw243_1), ((HB.out.cell (World.block_lt_of_cell? w _ hw243_2)).trans hw243_2), ((HB.out.cell (World.block_lt_of_cell? w _ hw243_3)).trans hw243_3)⟩ (fun hHeld => ?_); refine with_tabW columbaryref13_Same.tab6 columbaryref13_Same.bits6 (fun HT_ HW_ => ?_)
        generalize wr.drew = w11 at HB HR242_1 HR242_3 HR243_1 HR243_3 hx242_0 hx242_1 hx242_2 hx242_3 hx243_0 hx243_1 hx243_2 hx243_3 hHeld ⊢
        refine pure_ (i := 0) (N := some 18) (v := ?_) (a' := ?_) #[true, false, false, false, false, false, false, false, false, false] rfl rfl (any_of HT_.out (by kernel_rfl)) (fun _ _ _ h => h) (Or.inl ⟨by rfl, ?_⟩) ?_ ?_
        rotate_left
        ·intro w'
         go_simp
         with_reducible rfl
        rotate_left
        ·simp only [Act.put, qA, qB, qC, i64_w, i32_w]
         rfl
        refine pure_ (i := 1) (N := some 19) (v := ?_) (a' := ?_) #[true, true, false, false, false, false, false, false, false, false] rfl rfl (any_of HT_.out (by kernel_rfl)) (fun _ _ _ h => h) (Or.inl ⟨by rfl, ?_⟩) ?_ ?_
        rotate_left
        ·intro w'
         go_simp
         with_reducible rfl
        rotate_left
        ·simp only [Act.put, qA, qB, qC, i64_w, i32_w]
         rfl
        refine pure_ (i := 2) (N := some 20) (v := ?_) (a' := ?_) #[true, true, true, false, false, false, false, false, false, false] rfl rfl (any_of HT_.out (by kernel_rfl)) (fun _ _ _ h => h) (Or.inl ⟨by rfl, ?_⟩) ?_ ?_
        rotate_left
        ·intro w'
         go_simp
         with_reducible rfl
        rotate_left
        ·simp only [Act.put, qA, qB, qC, i64_w, i32_w]
         rfl
        refine pure_ (i := 4) (N := some 22) (v := ?_) (a' := ?_) #[true, true, true, false, true, false, false, false, false, false] rfl rfl (any_of HT_.out (by kernel_rfl)) (fun _ _ _ h => h) (Or.inl ⟨by rfl, ?_⟩) ?_ ?_
        rotate_left
        ·intro w'
         go_simp
         with_reducible rfl
        rotate_left
        ·simp only [Act.put, qA, qB, qC, i64_w, i32_w]
         rfl
        refine pure_ (i := 5) (N := some 23) (v := ?_) (a' := ?_) #[true, true, true, false, true, true, false, false, false, false] rfl rfl (any_of HT_.out (by kernel_rfl)) (fun _ _ _ h => h) (Or.inl ⟨by rfl, ?_⟩) ?_ ?_
        rotate_left
        ·intro w'
         go_simp
         with_reducible rfl
        rotate_left
        ·simp only [Act.put, qA, qB, qC, i64_w, i32_w]
         rfl
        refine pure_ (i := 6) (N := some 24) (v := ?_) (a' := ?_) #[true, true, true, false, true, true, true, false, false, false] rfl rfl (any_of HT_.out (by kernel_rfl)) (fun _ _ _ h => h) (Or.inl ⟨by rfl, ?_⟩) ?_ ?_
        rotate_left
        ·intro w'
         go_simp
         with_reducible rfl
        rotate_left
        ·simp only [Act.put, qA, qB, qC, i64_w, i32_w]
         rfl
        refine take_ (i := 3) (N := some 21) (v := ?_) (a' := ?_) #[true, true, true, true, true, true, true, false, false, false] rfl rfl (take_ofW HT_.out HW_.out (by kernel_rfl)) (fun _ _ _ h => h) (Or.inl ⟨by rfl, ?_⟩) hHeld ?_ ?_
        rotate_left
        ·rintro w' ⟨s0, s1, s2, s3, s4, s5, s6, s7⟩
         go_simp
         with_reducible rfl
        rotate_left
        ·simp only [Act.put, qA, qB, qC, i64_w, i32_w]
         rfl
        refine take_ (i := 7) (N := some 25) (v := ?_) (a' := ?_) #[true, true, true, true, true, true, true, true, false, false] rfl rfl (take_ofW HT_.out HW_.out (by kernel_rfl)) (fun _ _ _ h => h) (Or.inl ⟨by rfl, ?_⟩) hHeld ?_ ?_
        rotate_left
        ·rintro w' ⟨s0, s1, s2, s3, s4, s5, s6, s7⟩
         go_simp
         with_reducible rfl
        rotate_left
        ·simp only [Act.put, qA, qB, qC, i64_w, i32_w]
         rfl
        refine one_ (i := 8) (N := some 26) #[true, true, true, true, true, true, true, true, true, false] rfl rfl (one_of HT_.out (by kernel_rfl)) (by decide) (fun K hK => ?_)
        refine goes_ Try.func31 (by kernel_rfl) rfl #[.agg #[.int .i64 ((rd_T39 l0 x5_1).f0), .slice A242_1 ((rd_T39 l0 x5_1).f1).length c242_1, .int .i64 ((rd_T39 l0 x5_1).f2), .slice A242_3 ((rd_T39 l0 x5_1).f3).length c242_3], .agg #[.int .i64 ((rd_T39 l1 x5_1).f0), .slice A243_1 ((rd_T39 l1 x5_1).f1).length c243_1, .int .i64 ((rd_T39 l1 x5_1).f2), .slice A243_3 ((rd_T39 l1 x5_1).f3).length c243_3]] (by rfl) rfl rfl (by (try simp only [List.map_toArray, List.map_cons, List.map_nil]); first | done | rfl | (simp only [List.length_drop, List.length_take]; rfl)) ?_
        with_reducible refine (columbaryref13_One.calls k1 ((rd_T39 l0 x5_1).f0) _ _ ((rd_T39 l0 x5_1).f1) ((rd_T39 l0 x5_1).f2) _ _ ((rd_T39 l0 x5_1).f3) ((rd_T39 l1 x5_1).f0) _ _ ((rd_T39 l1 x5_1).f1) ((rd_T39 l1 x5_1).f2) _ _ ((rd_T39 l1 x5_1).f3) false _ ?side1 ?side2 ?side3 ?side4 ?side5 ?side6 ?side7 ?side8 A7.out).mono ?_
        (case side1 => repeat (first | exact (Kd.C_below HR242_1.out HB.out) | (with_reducible refine Kd.C_alloc ?_ _) | (with_reducible refine Kd.C_drewN ?_ _) | (with_reducible refine Kd.C_drew ?_)))
        (case side2 => exact HC242_1.out)
        (case side3 => repeat (first | exact (Kd.C_below HR242_3.out HB.out) | (with_reducible refine Kd.C_alloc ?_ _) | (with_reducible refine Kd.C_drewN ?_ _) | (with_reducible refine Kd.C_drew ?_)))
        (case side4 => exact HC242_3.out)
        (case side5 => repeat (first | exact (Kd.C_below HR243_1.out HB.out) | (with_reducible refine Kd.C_alloc ?_ _) | (with_reducible refine Kd.C_drewN ?_ _) | (with_reducible refine Kd.C_drew ?_)))
        (case side6 => exact HC243_1.out)
        (case side7 => repeat (first | exact (Kd.C_below HR243_3.out HB.out) | (with_reducible refine Kd.C_alloc ?_ _) | (with_reducible refine Kd.C_drewN ?_ _) | (with_reducible refine Kd.C_drew ?_)))
        (case side8 => exact HC243_3.out)
        rintro e w12 ⟨rfl, hb⟩
        refine ⟨_, rfl, ?_⟩
        have n0_ := Z0.mk (below_step (by repeat (first | (with_reducible first | exact HB.out | apply beA | apply bpN | apply bd1) | exact HB.out)) hb)
        clear HB
        have HB := n0_
        clear n0_
        (try clear hb)
        (try clear hb2)
        (try clear hk)
        (try clear hi)
        refine hK.out _ _ ⟨((HB.out.cell (World.block_lt_of_cell? w _ hw242_0)).trans hw242_0), ((HB.out.cell (World.block_lt_of_cell? w _ hw242_1)).trans hw242_1), ((HB.out.cell (World.block_lt_of_cell? w _ hw242_2)).trans hw242_2), ((HB.out.cell (World.block_lt_of_cell? w _ hw242_3)).trans hw242_3), ((HB.out.cell (World.block_lt_of_cell? w _ hw243_0)).trans hw243_0), ((HB.out.cell (World.block_lt_of_cell? w _ hw243_1)).trans hw243_1), ((HB.out.cell (World.block_lt_of_cell? w _ hw243_2)).trans hw243_2), ((HB.out.cell (World.block_lt_of_cell? w _ hw243_3)).trans hw243_3)⟩ (fun hHeld => ?_)
        clear hK K
        refine norm_ (a' := ?_) ?_ ?_
        rotate_left
        ·show Act.put _ (some 26) _ = _
         simp only [Act.put, qA, qB, qC, i64_w, i32_w]
         rfl
        refine pure_ (i := 9) (N := some 6) (v := ?_) (a' := ?_) #[true, true, true, true, true, true, true, true, true, true] rfl rfl (any_of HT_.out (by kernel_rfl)) (fun _ _ _ h => h) (Or.inl ⟨by rfl, ?_⟩) ?_ ?_
        rotate_left
        ·intro w'
         go_simp
         with_reducible rfl
        rotate_left
        ·simp only [Act.put, qA, qB, qC, i64_w, i32_w]
         rfl
        refine done_ (done_of HT_.out (by kernel_rfl)) ?_
        try go_wp2
        go_ret
        exact ⟨by first | rfl | (simp [errW_none, errW_some] <;> rfl) | (simp [*, errW_none, errW_some] <;> rfl), by repeat (first | (with_reducible first | exact HB.out | apply beA | apply bpN | apply bd1) | exact HB.out)⟩
      ·rw [if_neg c6] at H
       exact absurd H (by simp)
     ·rw [if_neg c5] at H
      exact absurd H (by simp)
    ·rw [if_neg c4] at H
     have c4b0 : decide (x5_1 < (l0.length : Int)) = false := decide_eq_false c4
     clear c4
     obtain rfl := Option.some.inj H
     go_wp2
     go_ret
     exact ⟨by first | rfl | (simp [errW_none, errW_some] <;> rfl) | (simp [*, errW_none, errW_some] <;> rfl), by repeat (first | (with_reducible first | exact HB.out | apply beA | apply bpN | apply bd1) | exact HB.out)⟩
 ·rw [if_neg c3] at H
  have c3b0 : ((l0.length : Int) == (l1.length : Int)) = false := beq_eq_false_iff_ne.mpr c3
  have c3b1 : ((l0.length : Int) != (l1.length : Int)) = true := bne_iff_ne.mpr c3
  have c3b2 : (l0.length == l1.length) = false := by first | simpa using c3 | (simp at c3 ⊢; omega)
  obtain rfl := Option.some.inj H
  go_enter Try.func13, Try.ntmps13
  go_wp2
  go_ret
  exact ⟨by first | rfl | (simp [errW_none, errW_some] <;> rfl) | (simp [*, errW_none, errW_some] <;> rfl), by repeat (first | (with_reducible first | exact HB.out | apply beA | apply bpN | apply bd1) | exact HB.out)⟩
end Go.Proofs.Ytdeeffahfkndkaa.P
