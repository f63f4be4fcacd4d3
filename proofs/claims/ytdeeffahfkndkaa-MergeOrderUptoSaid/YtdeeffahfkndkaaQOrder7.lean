/- A part of the proof: lemmas and contracts of functions (printed or written by the session's program, and by hand), in dependency order. -/
import Derived.Test.YtdeeffahfkndkaaQOrder3
import Derived.Test.YtdeeffahfkndkaaQOrder6
namespace Go.Proofs.Ytdeeffahfkndkaa.P
open Go.RowKit Go.Proofs.YtdeeffahfkndkaaW.PrintWords Go.Proofs.YtdeeffahfkndkaaW.PrintLast Go.Proofs.YtdeeffahfkndkaaW.PrintMore
attribute [local go_sem] max2_int min2_int max_two min_two max_three min_three max_four min_four
set_option linter.unusedVariables false
set_option linter.unusedSimpArgs false
def merge_cursors_Less.f (k : Nat) (l0 : List (S64)) (a1 : Int) (a2 : Int) : Option (Bool) := if 0 ≤ a1 then (if a1 < (l0.length : Int) then (if 0 < (((rd_T64 l0 a1).f0).length : Int) then (if 0 ≤ a2 then (if a2 < (l0.length : Int) then (if 0 < (((rd_T64 l0 a2).f0).length : Int) then ((rows_Compare.f k ((rd_T39 ((rd_T64 l0 a1).f0) 0).f0) ((rd_T39 ((rd_T64 l0 a1).f0) 0).f1) ((rd_T39 ((rd_T64 l0 a1).f0) 0).f2) ((rd_T39 ((rd_T64 l0 a1).f0) 0).f3) ((rd_T39 ((rd_T64 l0 a2).f0) 0).f0) ((rd_T39 ((rd_T64 l0 a2).f0) 0).f1) ((rd_T39 ((rd_T64 l0 a2).f0) 0).f2) ((rd_T39 ((rd_T64 l0 a2).f0) 0).f3)).bind fun t384 => ((cmp_Compare_int.f ((rd_T64 l0 a1).f1) ((rd_T64 l0 a2).f1)).bind fun t387 => ((cmp_Or_int.f k (([t384, t387] : List Int))).bind fun t391 => (some (decide (t391 < 0)))))) else (none)) else (none)) else (none)) else (none)) else (none)) else (none)
def merge_cursors_Less.T1 : Bool × List (List Nat × List Nat) := (true, [([], []), ([], []), ([0, 1], [0, 1]), ([2], [2]), ([3], [3]), ([4], [4]), ([5], [5]), ([], []), ([], []), ([7, 8], [7, 8]), ([9], [9]), ([10], [10]), ([11], [11]), ([12], [12]), ([6, 13], [6, 13]), ([], []), ([], []), ([15, 16], [15, 16]), ([17], [17]), ([18], [18]), ([], []), ([], []), ([20, 21], [20, 21]), ([22], [22]), ([23], [23]), ([19, 24, 14], [19, 24]), ([14, 25], [14, 25]), ([26, 25], [26]), ([27], [27]), ([28, 27, 0, 1, 2, 3, 4, 5, 6, 7, 8, 9, 10, 11, 12, 13, 14, 15, 16, 17, 18, 19, 20, 21, 22, 23, 24, 25, 26, 27, 28], [28])])
def merge_cursors_Less.B1 : List Nat := [0, 0, 3, 7, 15, 31, 63, 0, 0, 384, 896, 1920, 3968, 8064, 16383, 0, 0, 98304, 229376, 491520, 0, 0, 3145728, 7340032, 15728640, 33554431, 67108863, 134217727, 268435455, 536870911]
theorem merge_cursors_Less.tab1 : rtab .any (opsOf Try.f101 1) = merge_cursors_Less.T1 := by kernel_rfl
theorem merge_cursors_Less.bits1 : waitsOk merge_cursors_Less.T1.2 merge_cursors_Less.B1 = true := by kernel_rfl
set_option maxHeartbeats 8000000 in
set_option maxRecDepth 100000 in
theorem merge_cursors_Less.calls (k : Nat) (A0 : Option Addr) (c0 : Nat) (l0 : List (S64)) (a1 : Int) (a2 : Int) (r : Bool) (w : World) (hr0 : Kd.C k64 w A0 l0.length l0) (hc0 : l0.length ≤ c0) (h : merge_cursors_Less.f k l0 a1 a2 = some r) :
  Calls Try.prog 101 #[.slice A0 l0.length c0, .int .i64 a1, .int .i64 a2] w fun e w' => e = .returned (.bool r) ∧ Below w.heap.size w w' := by
 have hu39 := Try.underlying39
 have HR0 := Z0.mk hr0
 have HC0 := Z0.mk hc0
 clear hr0 hc0
 have HB := Z0.mk (Below.refl w.heap.size w)
 have H : (if 0 ≤ a1 then (if a1 < (l0.length : Int) then (if 0 < (((rd_T64 l0 a1).f0).length : Int) then (if 0 ≤ a2 then (if a2 < (l0.length : Int) then (if 0 < (((rd_T64 l0 a2).f0).length : Int) then ((rows_Compare.f k ((rd_T39 ((rd_T64 l0 a1).f0) 0).f0) ((rd_T39 ((rd_T64 l0 a1).f0) 0).f1) ((rd_T39 ((rd_T64 l0 a1).f0) 0).f2) ((rd_T39 ((rd_T64 l0 a1).f0) 0).f3) ((rd_T39 ((rd_T64 l0 a2).f0) 0).f0) ((rd_T39 ((rd_T64 l0 a2).f0) 0).f1) ((rd_T39 ((rd_T64 l0 a2).f0) 0).f2) ((rd_T39 ((rd_T64 l0 a2).f0) 0).f3)).bind fun t384 => ((cmp_Compare_int.f ((rd_T64 l0 a1).f1) ((rd_T64 l0 a2).f1)).bind fun t387 => ((cmp_Or_int.f k (([t384, t387] : List Int))).bind fun t391 => (some (decide (t391 < 0)))))) else (none)) else (none)) else (none)) else (none)) else (none)) else (none)) = some r := h
 clear h
 by_cases c4 : 0 ≤ a1
 ·rw [if_pos c4] at H
  have c4b0 : decide (0 ≤ a1) = true := decide_eq_true c4
  clear c4
  by_cases c5 : a1 < (l0.length : Int)
  ·rw [if_pos c5] at H
   have c5b0 : decide (a1 < (l0.length : Int)) = true := decide_eq_true c5
   clear c5
   by_cases c6 : 0 < (((rd_T64 l0 a1).f0).length : Int)
   ·rw [if_pos c6] at H
    have c6b0 : decide (0 < (((rd_T64 l0 a1).f0).length : Int)) = true := decide_eq_true c6
    have c6b1 : decide (0 < ((rd_T64 l0 a1).f0).length) = true := decide_eq_true (by omega)
    clear c6
    by_cases c7 : 0 ≤ a2
    ·rw [if_pos c7] at H
     have c7b0 : decide (0 ≤ a2) = true := decide_eq_true c7
     clear c7
     by_cases c8 : a2 < (l0.length : Int)
     ·rw [if_pos c8] at H
      have c8b0 : decide (a2 < (l0.length : Int)) = true := decide_eq_true c8
      clear c8
      by_cases c9 : 0 < (((rd_T64 l0 a2).f0).length : Int)
      ·rw [if_pos c9] at H
       have c9b0 : decide (0 < (((rd_T64 l0 a2).f0).length : Int)) = true := decide_eq_true c9
       have c9b1 : decide (0 < ((rd_T64 l0 a2).f0).length) = true := decide_eq_true (by omega)
       clear c9
       replace H := Option.bind_eq_some_iff.mp H
       obtain ⟨t384, A100, H⟩ := H
       replace H : ((cmp_Compare_int.f ((rd_T64 l0 a1).f1) ((rd_T64 l0 a2).f1)).bind fun t387 => ((cmp_Or_int.f k (([t384, t387] : List Int))).bind fun t391 => (some (decide (t391 < 0))))) = some r := H
       have A10 := Z0.mk A100
       clear A100
       replace H := Option.bind_eq_some_iff.mp H
       obtain ⟨t387, A110, H⟩ := H
       replace H : ((cmp_Or_int.f k (([t384, t387] : List Int))).bind fun t391 => (some (decide (t391 < 0)))) = some r := H
       have A11 := Z0.mk A110
       clear A110
       obtain ⟨y388, hy388⟩ : ∃ y_ : List Int, y_ = (([t384, t387] : List Int)) := ⟨_, rfl⟩
       replace H : ((cmp_Or_int.f k y388).bind fun t391 => (some (decide (t391 < 0)))) = some r := by first | (rw [hy388]; with_reducible exact H) | (have H2_ := (Option.bind_some _ _).symm.trans H; rw [hy388]; with_reducible exact H2_) | (have H2_ := (Option.bind_some _ _).symm.trans H; with_reducible exact H2_) | with_reducible exact H | (rw [hy388]; exact H) | exact H
       have Ny388 := Z0.mk hy388
       clear hy388
       replace H := Option.bind_eq_some_iff.mp H
       obtain ⟨t391, A120, H⟩ := H
       replace H : (some (decide (t391 < 0))) = some r := H
       have A12 := Z0.mk A120
       clear A120
       obtain rfl := Option.some.inj H
       go_enter Try.func101, Try.ntmps101
       try go_wp2
       have n0_ := Z0.mk (bd1 HB.out)
       clear HB
       have HB := n0_
       clear n0_
       have p380 : 0 ≤ (a1 : Int) := of_decide_eq_true (by first | (with_reducible assumption) | assumption)
       have q380 : a1 < (l0.length : Int) := of_decide_eq_true (by first | (with_reducible assumption) | assumption)
       obtain ⟨ad380, A380_0, c380_0, e380, hx380_0, hx380_1, hl380_0, hi380_0⟩ := at_T64 HR0.out a1 p380 q380
       have hw380_1 := hx380_1
       have hw380_0 := hx380_0
       cases e380
       replace hx380_0 := (HB.out.cell (World.block_lt_of_cell? w _ hx380_0)).trans hx380_0
       replace hx380_1 := (HB.out.cell (World.block_lt_of_cell? w _ hx380_1)).trans hx380_1
       have HR380_0 := Z0.mk hi380_0
       have HC380_0 := Z0.mk hl380_0
       clear hi380_0 hl380_0
       replace p380 := eq_true p380
       replace q380 := eq_true q380
       have p381 : 0 ≤ (0 : Int) := (by omega)
       have q381 : 0 < (((rd_T64 l0 a1).f0).length : Int) := of_decide_eq_true (by first | (with_reducible assumption) | assumption)
       obtain ⟨ad381, A381_1, c381_1, A381_3, c381_3, e381, hx381_0, hx381_1, hx381_2, hx381_3, hl381_1, hi381_1, hl381_3, hi381_3⟩ := at_T39 HR380_0.out 0 p381 q381
       have hw381_3 := hx381_3
       (try rw [show ((0 : Int)).toNat = 0 from rfl] at hw381_3)
       (try rw [show 0 * 4 = 0 from rfl] at hw381_3)
       (try rw [Addr.add_zero'] at hw381_3)
       have hw381_2 := hx381_2
       (try rw [show ((0 : Int)).toNat = 0 from rfl] at hw381_2)
       (try rw [show 0 * 4 = 0 from rfl] at hw381_2)
       (try rw [Addr.add_zero'] at hw381_2)
       have hw381_1 := hx381_1
       (try rw [show ((0 : Int)).toNat = 0 from rfl] at hw381_1)
       (try rw [show 0 * 4 = 0 from rfl] at hw381_1)
       (try rw [Addr.add_zero'] at hw381_1)
       have hw381_0 := hx381_0
       (try rw [show ((0 : Int)).toNat = 0 from rfl] at hw381_0)
       (try rw [show 0 * 4 = 0 from rfl] at hw381_0)
       (try rw [Addr.add_zero'] at hw381_0)
       cases e381
       have qi381 : (0 < ((rd_T64 l0 a1).f0).length) = True := eq_true (by omega)
       (try rw [show ((0 : Int)).toNat = 0 from rfl] at hx381_0)
       (try rw [show 0 * 4 = 0 from rfl] at hx381_0)
       (try rw [Addr.add_zero'] at hx381_0)
       (try rw [show ((0 : Int)).toNat = 0 from rfl] at hx381_1)
       (try rw [show 0 * 4 = 0 from rfl] at hx381_1)
       (try rw [Addr.add_zero'] at hx381_1)
       (try rw [show ((0 : Int)).toNat = 0 from rfl] at hx381_2)
       (try rw [show 0 * 4 = 0 from rfl] at hx381_2)
       (try rw [Addr.add_zero'] at hx381_2)
       (try rw [show ((0 : Int)).toNat = 0 from rfl] at hx381_3)
       (try rw [show 0 * 4 = 0 from rfl] at hx381_3)
       (try rw [Addr.add_zero'] at hx381_3)
       replace hx381_0 := (HB.out.cell (World.block_lt_of_cell? w _ hx381_0)).trans hx381_0
       replace hx381_1 := (HB.out.cell (World.block_lt_of_cell? w _ hx381_1)).trans hx381_1
       replace hx381_2 := (HB.out.cell (World.block_lt_of_cell? w _ hx381_2)).trans hx381_2
       replace hx381_3 := (HB.out.cell (World.block_lt_of_cell? w _ hx381_3)).trans hx381_3
       have HR381_1 := Z0.mk hi381_1
       have HC381_1 := Z0.mk hl381_1
       clear hi381_1 hl381_1
       have HR381_3 := Z0.mk hi381_3
       have HC381_3 := Z0.mk hl381_3
       clear hi381_3 hl381_3
       replace p381 := eq_true p381
       replace q381 := eq_true q381
       have p382 : 0 ≤ (a2 : Int) := of_decide_eq_true (by first | (with_reducible assumption) | assumption)
       have q382 : a2 < (l0.length : Int) := of_decide_eq_true (by first | (with_reducible assumption) | assumption)
       obtain ⟨ad382, A382_0, c382_0, e382, hx382_0, hx382_1, hl382_0, hi382_0⟩ := at_T64 HR0.out a2 p382 q382
       have hw382_1 := hx382_1
       have hw382_0 := hx382_0
       obtain rfl : ad380 = ad382 := (by injection e382)
       replace hx382_0 := (HB.out.cell (World.block_lt_of_cell? w _ hx382_0)).trans hx382_0
       replace hx382_1 := (HB.out.cell (World.block_lt_of_cell? w _ hx382_1)).trans hx382_1
       have HR382_0 := Z0.mk hi382_0
       have HC382_0 := Z0.mk hl382_0
       clear hi382_0 hl382_0
       replace p382 := eq_true p382
       replace q382 := eq_true q382
       have p383 : 0 ≤ (0 : Int) := (by omega)
       have q383 : 0 < (((rd_T64 l0 a2).f0).length : Int) := of_decide_eq_true (by first | (with_reducible assumption) | assumption)
       obtain ⟨ad383, A383_1, c383_1, A383_3, c383_3, e383, hx383_0, hx383_1, hx383_2, hx383_3, hl383_1, hi383_1, hl383_3, hi383_3⟩ := at_T39 HR382_0.out 0 p383 q383
       have hw383_3 := hx383_3
       (try rw [show ((0 : Int)).toNat = 0 from rfl] at hw383_3)
       (try rw [show 0 * 4 = 0 from rfl] at hw383_3)
       (try rw [Addr.add_zero'] at hw383_3)
       have hw383_2 := hx383_2
       (try rw [show ((0 : Int)).toNat = 0 from rfl] at hw383_2)
       (try rw [show 0 * 4 = 0 from rfl] at hw383_2)
       (try rw [Addr.add_zero'] at hw383_2)
       have hw383_1 := hx383_1
       (try rw [show ((0 : Int)).toNat = 0 from rfl] at hw383_1)
       (try rw [show 0 * 4 = 0 from rfl] at hw383_1)
       (try rw [Addr.add_zero'] at hw383_1)
       have hw383_0 := hx383_0
       (try rw [show ((0 : Int)).toNat = 0 from rfl] at hw383_0)
       (try rw [show 0 * 4 = 0 from rfl] at hw383_0)
       (try rw [Addr.add_zero'] at hw383_0)
       cases e383
       have qi383 : (0 < ((rd_T64 l0 a2).f0).length) = True := eq_true (by omega)
       (try rw [show ((0 : Int)).toNat = 0 from rfl] at hx383_0)
       (try rw [show 0 * 4 = 0 from rfl] at hx383_0)
       (try rw [Addr.add_zero'] at hx383_0)
       (try rw [show ((0 : Int)).toNat = 0 from rfl] at hx383_1)
       (try rw [show 0 * 4 = 0 from rfl] at hx383_1)
       (try rw [Addr.add_zero'] at hx383_1)
       (try rw [show ((0 : Int)).toNat = 0 from rfl] at hx383_2)
       (try rw [show 0 * 4 = 0 from rfl] at hx383_2)
       (try rw [Addr.add_zero'] at hx383_2)
       (try rw [show ((0 : Int)).toNat = 0 from rfl] at hx383_3)
       (try rw [show 0 * 4 = 0 from rfl] at hx383_3)
       (try rw [Addr.add_zero'] at hx383_3)
       replace hx383_0 := (HB.out.cell (World.block_lt_of_cell? w _ hx383_0)).trans hx383_0
       replace hx383_1 := (HB.out.cell (World.block_lt_of_cell? w _ hx383_1)).trans hx383_1
       replace hx383_2 := (HB.out.cell (World.block_lt_of_cell? w _ hx383_2)).trans hx383_2
       replace hx383_3 := (HB.out.cell (World.block_lt_of_cell? w _ hx383_3)).trans hx383_3
       have HR383_1 := Z0.mk hi383_1
       have HC383_1 := Z0.mk hl383_1
       clear hi383_1 hl383_1
       have HR383_3 := Z0.mk hi383_3
       have HC383_3 := Z0.mk hl383_3
       clear hi383_3 hl383_3
       replace p383 := eq_true p383
       replace q383 := eq_true q383
       have p385 : 0 ≤ (a1 : Int) := of_decide_eq_true (by first | (with_reducible assumption) | assumption)
       have q385 : a1 < (l0.length : Int) := of_decide_eq_true (by first | (with_reducible assumption) | assumption)
       obtain ⟨ad385, A385_0, c385_0, e385, hx385_0, hx385_1, hl385_0, hi385_0⟩ := at_T64 HR0.out a1 p385 q385
       have hw385_1 := hx385_1
       have hw385_0 := hx385_0
       obtain rfl : ad380 = ad385 := (by injection e385)
       replace hx385_0 := (HB.out.cell (World.block_lt_of_cell? w _ hx385_0)).trans hx385_0
       replace hx385_1 := (HB.out.cell (World.block_lt_of_cell? w _ hx385_1)).trans hx385_1
       have HR385_0 := Z0.mk hi385_0
       have HC385_0 := Z0.mk hl385_0
       clear hi385_0 hl385_0
       replace p385 := eq_true p385
       replace q385 := eq_true q385
       have ea_ := Option.some.inj (hx380_0.symm.trans hx385_0)
       injection ea_ with ea_ en_ ec_
       subst ea_
       subst ec_
       clear en_
       have p386 : 0 ≤ (a2 : Int) := of_decide_eq_true (by first | (with_reducible assumption) | assumption)
       have q386 : a2 < (l0.length : Int) := of_decide_eq_true (by first | (with_reducible assumption) | assumption)
       obtain ⟨ad386, A386_0, c386_0, e386, hx386_0, hx386_1, hl386_0, hi386_0⟩ := at_T64 HR0.out a2 p386 q386
       have hw386_1 := hx386_1
       have hw386_0 := hx386_0
       obtain rfl : ad380 = ad386 := (by injection e386)
       replace hx386_0 := (HB.out.cell (World.block_lt_of_cell? w _ hx386_0)).trans hx386_0
       replace hx386_1 := (HB.out.cell (World.block_lt_of_cell? w _ hx386_1)).trans hx386_1
       have HR386_0 := Z0.mk hi386_0
       have HC386_0 := Z0.mk hl386_0
       clear hi386_0 hl386_0
       replace p386 := eq_true p386
       replace q386 := eq_true q386
       have ea_ := Option.some.inj (hx382_0.symm.trans hx386_0)
       injection ea_ with ea_ en_ ec_
       subst ea_
       subst ec_
       clear en_
       refine start_ (n := 30) (S := fun w' => w'.cell? (ad380.add ((a1).toNat * 2)) = some (.slice (some ad381) ((rd_T64 l0 a1).f0).length c380_0) ∧ w'.cell? ⟨(ad380.add ((a1).toNat * 2)).block, (ad380.add ((a1).toNat * 2)).off + 1, none⟩ = some (.int .i64 ((rd_T64 l0 a1).f1)) ∧ w'.cell? ad381 = some (.int .i64 ((rd_T39 ((rd_T64 l0 a1).f0) 0).f0)) ∧ w'.cell? ⟨ad381.block, ad381.off + 1, none⟩ = some (.slice A381_1 ((rd_T39 ((rd_T64 l0 a1).f0) 0).f1).length c381_1) ∧ w'.cell? ⟨ad381.block, ad381.off + 2, none⟩ = some (.int .i64 ((rd_T39 ((rd_T64 l0 a1).f0) 0).f2)) ∧ w'.cell? ⟨ad381.block, ad381.off + 3, none⟩ = some (.slice A381_3 ((rd_T39 ((rd_T64 l0 a1).f0) 0).f3).length c381_3) ∧ w'.cell? (ad380.add ((a2).toNat * 2)) = some (.slice (some ad383) ((rd_T64 l0 a2).f0).length c382_0) ∧ w'.cell? ⟨(ad380.add ((a2).toNat * 2)).block, (ad380.add ((a2).toNat * 2)).off + 1, none⟩ = some (.int .i64 ((rd_T64 l0 a2).f1)) ∧ w'.cell? ad383 = some (.int .i64 ((rd_T39 ((rd_T64 l0 a2).f0) 0).f0)) ∧ w'.cell? ⟨ad383.block, ad383.off + 1, none⟩ = some (.slice A383_1 ((rd_T39 ((rd_T64 l0 a2).f0) 0).f1).length c383_1) ∧ w'.cell? ⟨ad383.block, ad383.off + 2, none⟩ = some (.int .i64 ((rd_T39 ((rd_T64 l0 a2).f0) 0).f2)) ∧ w'.cell? ⟨ad383.block, ad383.off + 3, none⟩ = some (.slice A383_3 ((rd_T39 ((rd_T64 l0 a2).f0) 0).f3).length c383_3) ∧ w'.cell? (ad380.add ((a1).toNat * 2)) = some (.slice (some ad381) ((rd_T64 l0 a1).f0).length c380_0) ∧ w'.cell? ⟨(ad380.add ((a1).toNat * 2)).block, (ad380.add ((a1).toNat * 2)).off + 1, none⟩ = some (.int .i64 ((rd_T64 l0 a1).f1)) ∧ w'.cell? (ad380.add ((a2).toNat * 2)) = some (.slice (some ad383) ((rd_T64 l0 a2).f0).length c382_0) ∧ w'.cell? ⟨(ad380.add ((a2).toNat * 2)).block, (ad380.add ((a2).toNat * 2)).off + 1, none⟩ = some (.int .i64 ((rd_T64 l0 a2).f1))) (ds := []) #[false, false, false, false, false, false, false, false, false, false, false, false, false, false, false, false, false, false, false, false, false, false, false, false, false, false, false, false, false, false] (by kernel_rfl) rfl rfl ⟨((HB.out.cell (World.block_lt_of_cell? w _ hw380_0)).trans hw380_0), ((HB.out.cell (World.block_lt_of_cell? w _ hw380_1)).trans hw380_1), ((HB.out.cell (World.block_lt_of_cell? w _ hw381_0)).trans hw381_0), ((HB.out.cell (World.block_lt_of_cell? w _ hw381_1)).trans hw381_1), ((HB.out.cell (World.block_lt_of_cell? w _ hw381_2)).trans hw381_2), ((HB.out.cell (World.block_lt_of_cell? w _ hw381_3)).trans hw381_3), ((HB.out.cell (World.block_lt_of_cell? w _ hw382_0)).trans hw382_0), ((HB.out.cell (World.block_lt_of_cell? w _ hw382_1)).trans hw382_1), ((HB.out.cell (World.block_lt_of_cell? w _ hw383_0)).trans hw383_0), ((HB.out.cell (World.block_lt_of_cell? w _ hw383_1)).trans hw383_1), ((HB.out.cell (World.block_lt_of_cell? w _ hw383_2)).trans hw383_2), ((HB.out.cell (World.block_lt_of_cell? w _ hw383_3)).trans hw383_3), ((HB.out.cell (World.block_lt_of_cell? w _ hw385_0)).trans hw385_0), ((HB.out.cell (World.block_lt_of_cell? w _ hw385_1)).trans hw385_1), ((HB.out.cell (World.block_lt_of_cell? w _ hw386_0)).trans hw386_0), ((HB.out.cell (World.block_lt_of_cell? w _ hw386_1)).trans hw386_1)⟩ (fun hHeld => ?_); refine with_tabW merge_cursors_Less.tab1 merge_cursors_Less.bits1 (fun HT_ HW_ => ?_)
       generalize w.drew = w13 at HB HR380_0 HR381_1 HR381_3 HR382_0 HR383_1 HR383_3 HR385_0 HR386_0 hx380_0 hx380_1 hx381_0 hx381_1 hx381_2 hx381_3 hx382_0 hx382_1 hx383_0 hx383_1 hx383_2 hx383_3 hx385_0 hx385_1 hx386_0 hx386_1 hHeld ⊢
       refine pure_ (i := 0) (N := some 7) (v := ?_) (a' := ?_) #[true, false, false, false, false, false, false, false, false, false, false, false, false, false, false, false, false, false, false, false, false, false, false, false, false, false, false, false, false, false] rfl rfl (any_of HT_.out (by kernel_rfl)) (fun _ _ _ h => h) (Or.inl ⟨by rfl, ?_⟩) ?_ ?_
       rotate_left
       ·intro w'
        go_simp
        with_reducible rfl
       rotate_left
       ·simp only [Act.put, qA, qB, qC, i64_w, i32_w]
        rfl
       refine pure_ (i := 1) (N := some 8) (v := ?_) (a' := ?_) #[true, true, false, false, false, false, false, false, false, false, false, false, false, false, false, false, false, false, false, false, false, false, false, false, false, false, false, false, false, false] rfl rfl (any_of HT_.out (by kernel_rfl)) (fun _ _ _ h => h) (Or.inl ⟨by rfl, ?_⟩) ?_ ?_
       rotate_left
       ·intro w'
        go_simp
        with_reducible rfl
       rotate_left
       ·simp only [Act.put, qA, qB, qC, i64_w, i32_w]
        rfl
       refine pure_ (i := 2) (N := some 9) (v := ?_) (a' := ?_) #[true, true, true, false, false, false, false, false, false, false, false, false, false, false, false, false, false, false, false, false, false, false, false, false, false, false, false, false, false, false] rfl rfl (any_of HT_.out (by kernel_rfl)) (fun _ _ _ h => h) (Or.inl ⟨by rfl, ?_⟩) ?_ ?_
       rotate_left
       ·intro w'
        go_simp
        with_reducible rfl
       rotate_left
       ·simp only [Act.put, qA, qB, qC, i64_w, i32_w]
        rfl
       refine pure_ (i := 3) (N := some 10) (v := ?_) (a' := ?_) #[true, true, true, true, false, false, false, false, false, false, false, false, false, false, false, false, false, false, false, false, false, false, false, false, false, false, false, false, false, false] rfl rfl (any_of HT_.out (by kernel_rfl)) (fun _ _ _ h => h) (Or.inl ⟨by rfl, ?_⟩) ?_ ?_
       rotate_left
       ·intro w'
        go_simp
        with_reducible rfl
       rotate_left
       ·simp only [Act.put, qA, qB, qC, i64_w, i32_w]
        rfl
       refine pure_ (i := 7) (N := some 14) (v := ?_) (a' := ?_) #[true, true, true, true, false, false, false, true, false, false, false, false, false, false, false, false, false, false, false, false, false, false, false, false, false, false, false, false, false, false] rfl rfl (any_of HT_.out (by kernel_rfl)) (fun _ _ _ h => h) (Or.inl ⟨by rfl, ?_⟩) ?_ ?_
       rotate_left
       ·intro w'
        go_simp
        with_reducible rfl
       rotate_left
       ·simp only [Act.put, qA, qB, qC, i64_w, i32_w]
        rfl
       refine pure_ (i := 8) (N := some 15) (v := ?_) (a' := ?_) #[true, true, true, true, false, false, false, true, true, false, false, false, false, false, false, false, false, false, false, false, false, false, false, false, false, false, false, false, false, false] rfl rfl (any_of HT_.out (by kernel_rfl)) (fun _ _ _ h => h) (Or.inl ⟨by rfl, ?_⟩) ?_ ?_
       rotate_left
       ·intro w'
        go_simp
        with_reducible rfl
       rotate_left
       ·simp only [Act.put, qA, qB, qC, i64_w, i32_w]
        rfl
       refine pure_ (i := 9) (N := some 16) (v := ?_) (a' := ?_) #[true, true, true, true, false, false, false, true, true, true, false, false, false, false, false, false, false, false, false, false, false, false, false, false, false, false, false, false, false, false] rfl rfl (any_of HT_.out (by kernel_rfl)) (fun _ _ _ h => h) (Or.inl ⟨by rfl, ?_⟩) ?_ ?_
       rotate_left
       ·intro w'
        go_simp
        with_reducible rfl
       rotate_left
       ·simp only [Act.put, qA, qB, qC, i64_w, i32_w]
        rfl
       refine pure_ (i := 10) (N := some 17) (v := ?_) (a' := ?_) #[true, true, true, true, false, false, false, true, true, true, true, false, false, false, false, false, false, false, false, false, false, false, false, false, false, false, false, false, false, false] rfl rfl (any_of HT_.out (by kernel_rfl)) (fun _ _ _ h => h) (Or.inl ⟨by rfl, ?_⟩) ?_ ?_
       rotate_left
       ·intro w'
        go_simp
        with_reducible rfl
       rotate_left
       ·simp only [Act.put, qA, qB, qC, i64_w, i32_w]
        rfl
       refine pure_ (i := 15) (N := some 22) (v := ?_) (a' := ?_) #[true, true, true, true, false, false, false, true, true, true, true, false, false, false, false, true, false, false, false, false, false, false, false, false, false, false, false, false, false, false] rfl rfl (any_of HT_.out (by kernel_rfl)) (fun _ _ _ h => h) (Or.inl ⟨by rfl, ?_⟩) ?_ ?_
       rotate_left
       ·intro w'
        go_simp
        with_reducible rfl
       rotate_left
       ·simp only [Act.put, qA, qB, qC, i64_w, i32_w]
        rfl
       refine pure_ (i := 16) (N := some 23) (v := ?_) (a' := ?_) #[true, true, true, true, false, false, false, true, true, true, true, false, false, false, false, true, true, false, false, false, false, false, false, false, false, false, false, false, false, false] rfl rfl (any_of HT_.out (by kernel_rfl)) (fun _ _ _ h => h) (Or.inl ⟨by rfl, ?_⟩) ?_ ?_
       rotate_left
       ·intro w'
        go_simp
        with_reducible rfl
       rotate_left
       ·simp only [Act.put, qA, qB, qC, i64_w, i32_w]
        rfl
       refine pure_ (i := 17) (N := some 24) (v := ?_) (a' := ?_) #[true, true, true, true, false, false, false, true, true, true, true, false, false, false, false, true, true, true, false, false, false, false, false, false, false, false, false, false, false, false] rfl rfl (any_of HT_.out (by kernel_rfl)) (fun _ _ _ h => h) (Or.inl ⟨by rfl, ?_⟩) ?_ ?_
       rotate_left
       ·intro w'
        go_simp
        with_reducible rfl
       rotate_left
       ·simp only [Act.put, qA, qB, qC, i64_w, i32_w]
        rfl
       refine pure_ (i := 18) (N := some 25) (v := ?_) (a' := ?_) #[true, true, true, true, false, false, false, true, true, true, true, false, false, false, false, true, true, true, true, false, false, false, false, false, false, false, false, false, false, false] rfl rfl (any_of HT_.out (by kernel_rfl)) (fun _ _ _ h => h) (Or.inl ⟨by rfl, ?_⟩) ?_ ?_
       rotate_left
       ·intro w'
        go_simp
        with_reducible rfl
       rotate_left
       ·simp only [Act.put, qA, qB, qC, i64_w, i32_w]
        rfl
       refine pure_ (i := 20) (N := some 27) (v := ?_) (a' := ?_) #[true, true, true, true, false, false, false, true, true, true, true, false, false, false, false, true, true, true, true, false, true, false, false, false, false, false, false, false, false, false] rfl rfl (any_of HT_.out (by kernel_rfl)) (fun _ _ _ h => h) (Or.inl ⟨by rfl, ?_⟩) ?_ ?_
       rotate_left
       ·intro w'
        go_simp
        with_reducible rfl
       rotate_left
       ·simp only [Act.put, qA, qB, qC, i64_w, i32_w]
        rfl
       refine pure_ (i := 21) (N := some 28) (v := ?_) (a' := ?_) #[true, true, true, true, false, false, false, true, true, true, true, false, false, false, false, true, true, true, true, false, true, true, false, false, false, false, false, false, false, false] rfl rfl (any_of HT_.out (by kernel_rfl)) (fun _ _ _ h => h) (Or.inl ⟨by rfl, ?_⟩) ?_ ?_
       rotate_left
       ·intro w'
        go_simp
        with_reducible rfl
       rotate_left
       ·simp only [Act.put, qA, qB, qC, i64_w, i32_w]
        rfl
       refine pure_ (i := 22) (N := some 29) (v := ?_) (a' := ?_) #[true, true, true, true, false, false, false, true, true, true, true, false, false, false, false, true, true, true, true, false, true, true, true, false, false, false, false, false, false, false] rfl rfl (any_of HT_.out (by kernel_rfl)) (fun _ _ _ h => h) (Or.inl ⟨by rfl, ?_⟩) ?_ ?_
       rotate_left
       ·intro w'
        go_simp
        with_reducible rfl
       rotate_left
       ·simp only [Act.put, qA, qB, qC, i64_w, i32_w]
        rfl
       refine pure_ (i := 23) (N := some 30) (v := ?_) (a' := ?_) #[true, true, true, true, false, false, false, true, true, true, true, false, false, false, false, true, true, true, true, false, true, true, true, true, false, false, false, false, false, false] rfl rfl (any_of HT_.out (by kernel_rfl)) (fun _ _ _ h => h) (Or.inl ⟨by rfl, ?_⟩) ?_ ?_
       rotate_left
       ·intro w'
        go_simp
        with_reducible rfl
       rotate_left
       ·simp only [Act.put, qA, qB, qC, i64_w, i32_w]
        rfl
       refine take_ (i := 4) (N := some 11) (v := ?_) (a' := ?_) #[true, true, true, true, true, false, false, true, true, true, true, false, false, false, false, true, true, true, true, false, true, true, true, true, false, false, false, false, false, false] rfl rfl (take_ofW HT_.out HW_.out (by kernel_rfl)) (fun _ _ _ h => h) (Or.inl ⟨by rfl, ?_⟩) hHeld ?_ ?_
       rotate_left
       ·rintro w' ⟨s0, s1, s2, s3, s4, s5, s6, s7, s8, s9, s10, s11, s12, s13, s14, s15⟩
        go_simp
        with_reducible rfl
       rotate_left
       ·simp only [Act.put, qA, qB, qC, i64_w, i32_w]
        rfl
       refine pure_ (i := 5) (N := some 12) (v := ?_) (a' := ?_) #[true, true, true, true, true, true, false, true, true, true, true, false, false, false, false, true, true, true, true, false, true, true, true, true, false, false, false, false, false, false] rfl rfl (any_of HT_.out (by kernel_rfl)) (fun _ _ _ h => h) (Or.inl ⟨by rfl, ?_⟩) ?_ ?_
       rotate_left
       ·intro w'
        go_simp
        with_reducible rfl
       rotate_left
       ·simp only [Act.put, qA, qB, qC, i64_w, i32_w]
        rfl
       refine take_ (i := 6) (N := some 13) (v := ?_) (a' := ?_) #[true, true, true, true, true, true, true, true, true, true, true, false, false, false, false, true, true, true, true, false, true, true, true, true, false, false, false, false, false, false] rfl rfl (take_ofW HT_.out HW_.out (by kernel_rfl)) (fun _ _ _ h => h) (Or.inl ⟨by rfl, ?_⟩) hHeld ?_ ?_
       rotate_left
       ·rintro w' ⟨s0, s1, s2, s3, s4, s5, s6, s7, s8, s9, s10, s11, s12, s13, s14, s15⟩
        go_simp
        with_reducible rfl
       rotate_left
       ·simp only [Act.put, qA, qB, qC, i64_w, i32_w]
        rfl
       refine take_ (i := 11) (N := some 18) (v := ?_) (a' := ?_) #[true, true, true, true, true, true, true, true, true, true, true, true, false, false, false, true, true, true, true, false, true, true, true, true, false, false, false, false, false, false] rfl rfl (take_ofW HT_.out HW_.out (by kernel_rfl)) (fun _ _ _ h => h) (Or.inl ⟨by rfl, ?_⟩) hHeld ?_ ?_
       rotate_left
       ·rintro w' ⟨s0, s1, s2, s3, s4, s5, s6, s7, s8, s9, s10, s11, s12, s13, s14, s15⟩
        go_simp
        with_reducible rfl
       rotate_left
       ·simp only [Act.put, qA, qB, qC, i64_w, i32_w]
        rfl
       refine pure_ (i := 12) (N := some 19) (v := ?_) (a' := ?_) #[true, true, true, true, true, true, true, true, true, true, true, true, true, false, false, true, true, true, true, false, true, true, true, true, false, false, false, false, false, false] rfl rfl (any_of HT_.out (by kernel_rfl)) (fun _ _ _ h => h) (Or.inl ⟨by rfl, ?_⟩) ?_ ?_
       rotate_left
       ·intro w'
        go_simp
        with_reducible rfl
       rotate_left
       ·simp only [Act.put, qA, qB, qC, i64_w, i32_w]
        rfl
       refine take_ (i := 13) (N := some 20) (v := ?_) (a' := ?_) #[true, true, true, true, true, true, true, true, true, true, true, true, true, true, false, true, true, true, true, false, true, true, true, true, false, false, false, false, false, false] rfl rfl (take_ofW HT_.out HW_.out (by kernel_rfl)) (fun _ _ _ h => h) (Or.inl ⟨by rfl, ?_⟩) hHeld ?_ ?_
       rotate_left
       ·rintro w' ⟨s0, s1, s2, s3, s4, s5, s6, s7, s8, s9, s10, s11, s12, s13, s14, s15⟩
        go_simp
        with_reducible rfl
       rotate_left
       ·simp only [Act.put, qA, qB, qC, i64_w, i32_w]
        rfl
       refine take_ (i := 19) (N := some 26) (v := ?_) (a' := ?_) #[true, true, true, true, true, true, true, true, true, true, true, true, true, true, false, true, true, true, true, true, true, true, true, true, false, false, false, false, false, false] rfl rfl (take_ofW HT_.out HW_.out (by kernel_rfl)) (fun _ _ _ h => h) (Or.inl ⟨by rfl, ?_⟩) hHeld ?_ ?_
       rotate_left
       ·rintro w' ⟨s0, s1, s2, s3, s4, s5, s6, s7, s8, s9, s10, s11, s12, s13, s14, s15⟩
        go_simp
        with_reducible rfl
       rotate_left
       ·simp only [Act.put, qA, qB, qC, i64_w, i32_w]
        rfl
       refine take_ (i := 24) (N := some 31) (v := ?_) (a' := ?_) #[true, true, true, true, true, true, true, true, true, true, true, true, true, true, false, true, true, true, true, true, true, true, true, true, true, false, false, false, false, false] rfl rfl (take_ofW HT_.out HW_.out (by kernel_rfl)) (fun _ _ _ h => h) (Or.inl ⟨by rfl, ?_⟩) hHeld ?_ ?_
       rotate_left
       ·rintro w' ⟨s0, s1, s2, s3, s4, s5, s6, s7, s8, s9, s10, s11, s12, s13, s14, s15⟩
        go_simp
        with_reducible rfl
       rotate_left
       ·simp only [Act.put, qA, qB, qC, i64_w, i32_w]
        rfl
       refine one_ (i := 14) (N := some 21) #[true, true, true, true, true, true, true, true, true, true, true, true, true, true, true, true, true, true, true, true, true, true, true, true, true, false, false, false, false, false] rfl rfl (one_of HT_.out (by kernel_rfl)) (by decide) (fun K hK => ?_)
       refine goes_ Try.func19 (by kernel_rfl) rfl #[.agg #[.int .i64 ((rd_T39 ((rd_T64 l0 a1).f0) 0).f0), .slice A381_1 ((rd_T39 ((rd_T64 l0 a1).f0) 0).f1).length c381_1, .int .i64 ((rd_T39 ((rd_T64 l0 a1).f0) 0).f2), .slice A381_3 ((rd_T39 ((rd_T64 l0 a1).f0) 0).f3).length c381_3], .agg #[.int .i64 ((rd_T39 ((rd_T64 l0 a2).f0) 0).f0), .slice A383_1 ((rd_T39 ((rd_T64 l0 a2).f0) 0).f1).length c383_1, .int .i64 ((rd_T39 ((rd_T64 l0 a2).f0) 0).f2), .slice A383_3 ((rd_T39 ((rd_T64 l0 a2).f0) 0).f3).length c383_3]] (by rfl) rfl rfl (by (try simp only [List.map_toArray, List.map_cons, List.map_nil]); first | done | rfl | (simp only [List.length_drop, List.length_take]; rfl)) ?_
       with_reducible refine (rows_Compare.calls k ((rd_T39 ((rd_T64 l0 a1).f0) 0).f0) _ _ ((rd_T39 ((rd_T64 l0 a1).f0) 0).f1) ((rd_T39 ((rd_T64 l0 a1).f0) 0).f2) _ _ ((rd_T39 ((rd_T64 l0 a1).f0) 0).f3) ((rd_T39 ((rd_T64 l0 a2).f0) 0).f0) _ _ ((rd_T39 ((rd_T64 l0 a2).f0) 0).f1) ((rd_T39 ((rd_T64 l0 a2).f0) 0).f2) _ _ ((rd_T39 ((rd_T64 l0 a2).f0) 0).f3) t384 _ ?side1 ?side2 ?side3 ?side4 ?side5 ?side6 ?side7 ?side8 A10.out).mono ?_
       (case side1 => repeat (first | exact (Kd.C_below HR381_1.out HB.out) | (with_reducible refine Kd.C_alloc ?_ _) | (with_reducible refine Kd.C_drewN ?_ _) | (with_reducible refine Kd.C_drew ?_)))
       (case side2 => exact HC381_1.out)
       (case side3 => repeat (first | exact (Kd.C_below HR381_3.out HB.out) | (with_reducible refine Kd.C_alloc ?_ _) | (with_reducible refine Kd.C_drewN ?_ _) | (with_reducible refine Kd.C_drew ?_)))
       (case side4 => exact HC381_3.out)
       (case side5 => repeat (first | exact (Kd.C_below HR383_1.out HB.out) | (with_reducible refine Kd.C_alloc ?_ _) | (with_reducible refine Kd.C_drewN ?_ _) | (with_reducible refine Kd.C_drew ?_)))
       (case side6 => exact HC383_1.out)
       (case side7 => repeat (first | exact (Kd.C_below HR383_3.out HB.out) | (with_reducible refine Kd.C_alloc ?_ _) | (with_reducible refine Kd.C_drewN ?_ _) | (with_reducible refine Kd.C_drew ?_)))
       (case side8 => exact HC383_3.out)
       rintro e w14 ⟨rfl, hb⟩
       refine ⟨_, rfl, ?_⟩
       have n0_ := Z0.mk (below_step (by repeat (first | (with_reducible first | exact HB.out | apply beA | apply bpN | apply bd1) | exact HB.out)) hb)
       clear HB
       have HB := n0_
       clear n0_
       (try clear hb)
       (try clear hb2)
       (try clear hk)
       (try clear hi)
       refine hK.out _ _ ⟨((HB.out.cell (World.block_lt_of_cell? w _ hw380_0)).trans hw380_0), ((HB.out.cell (World.block_lt_of_cell? w _ hw380_1)).trans hw380_1), ((HB.out.cell (World.block_lt_of_cell? w _ hw381_0)).trans hw381_0), ((HB.out.cell (World.block_lt_of_cell? w _ hw381_1)).trans hw381_1), ((HB.out.cell (World.block_lt_of_cell? w _ hw381_2)).trans hw381_2), ((HB.out.cell (World.block_lt_of_cell? w _ hw381_3)).trans hw381_3), ((HB.out.cell (World.block_lt_of_cell? w _ hw382_0)).trans hw382_0), ((HB.out.cell (World.block_lt_of_cell? w _ hw382_1)).trans hw382_1), ((HB.out.cell (World.block_lt_of_cell? w _ hw383_0)).trans hw383_0), ((HB.out.cell (World.block_lt_of_cell? w _ hw383_1)).trans hw383_1), ((HB.out.cell (World.block_lt_of_cell? w _ hw383_2)).trans hw383_2), ((HB.out.cell (World.block_lt_of_cell? w _ hw383_3)).trans hw383_3), ((HB.out.cell (World.block_lt_of_cell? w _ hw385_0)).trans hw385_0), ((HB.out.cell (World.block_lt_of_cell? w _ hw385_1)).trans hw385_1), ((HB.out.cell (World.block_lt_of_cell? w _ hw386_0)).trans hw386_0), ((HB.out.cell (World.block_lt_of_cell? w _ hw386_1)).trans hw386_1)⟩ (fun hHeld => ?_)
       clear hK K
       refine norm_ (a' := ?_) ?_ ?_
       rotate_left
       ·show Act.put _ (some 21) _ = _
        simp only [Act.put, qA, qB, qC, i64_w, i32_w]
        rfl
       refine one_ (i := 25) (N := some 32) #[true, true, true, true, true, true, true, true, true, true, true, true, true, true, true, true, true, true, true, true, true, true, true, true, true, true, false, false, false, false] rfl rfl (one_of HT_.out (by kernel_rfl)) (by decide) (fun K hK => ?_)
       refine goes_ Try.func40 (by kernel_rfl) rfl #[.int .i64 ((rd_T64 l0 a1).f1), .int .i64 ((rd_T64 l0 a2).f1)] (by rfl) rfl rfl (by (try simp only [List.map_toArray, List.map_cons, List.map_nil]); first | done | rfl | (simp only [List.length_drop, List.length_take]; rfl)) ?_
       with_reducible refine (cmp_Compare_int.calls ((rd_T64 l0 a1).f1) ((rd_T64 l0 a2).f1) t387 _ A11.out).mono ?_
       rintro e w' ⟨rfl, ⟨nd, rfl⟩⟩
       refine ⟨_, rfl, ?_⟩
       refine hK.out _ _ ⟨((HB.out.cell (World.block_lt_of_cell? w _ hw380_0)).trans hw380_0), ((HB.out.cell (World.block_lt_of_cell? w _ hw380_1)).trans hw380_1), ((HB.out.cell (World.block_lt_of_cell? w _ hw381_0)).trans hw381_0), ((HB.out.cell (World.block_lt_of_cell? w _ hw381_1)).trans hw381_1), ((HB.out.cell (World.block_lt_of_cell? w _ hw381_2)).trans hw381_2), ((HB.out.cell (World.block_lt_of_cell? w _ hw381_3)).trans hw381_3), ((HB.out.cell (World.block_lt_of_cell? w _ hw382_0)).trans hw382_0), ((HB.out.cell (World.block_lt_of_cell? w _ hw382_1)).trans hw382_1), ((HB.out.cell (World.block_lt_of_cell? w _ hw383_0)).trans hw383_0), ((HB.out.cell (World.block_lt_of_cell? w _ hw383_1)).trans hw383_1), ((HB.out.cell (World.block_lt_of_cell? w _ hw383_2)).trans hw383_2), ((HB.out.cell (World.block_lt_of_cell? w _ hw383_3)).trans hw383_3), ((HB.out.cell (World.block_lt_of_cell? w _ hw385_0)).trans hw385_0), ((HB.out.cell (World.block_lt_of_cell? w _ hw385_1)).trans hw385_1), ((HB.out.cell (World.block_lt_of_cell? w _ hw386_0)).trans hw386_0), ((HB.out.cell (World.block_lt_of_cell? w _ hw386_1)).trans hw386_1)⟩ (fun hHeld => ?_)
       clear hK K
       refine norm_ (a' := ?_) ?_ ?_
       rotate_left
       ·show Act.put _ (some 32) _ = _
        simp only [Act.put, qA, qB, qC, i64_w, i32_w]
        rfl
       refine one_ (i := 26) (N := some 33) #[true, true, true, true, true, true, true, true, true, true, true, true, true, true, true, true, true, true, true, true, true, true, true, true, true, true, true, false, false, false] rfl rfl (one_of HT_.out (by kernel_rfl)) (by decide) (fun K hK => ?_)
       refine Kd.R_lit_step (Kd.int .i64) _ 3 ?hg (N := 33) ?hd (xs := ([t384, t387] : List Int)) (inner := [.int .i64 t384, .int .i64 t387]) (ok := fun _ => True) (okp := fun _ => True) ?hr ?hp (fun _ hk => hk) trivial (Below.refl _ _) (Nat.le_refl _) (by simp) ?_; (case hd => rfl); (case hg => rfl); (case hr => first | (go_simp; done) | (go_simp; rfl)); (case hp => exact (Reps.one (show Kd.M (Kd.int .i64) _ _ _ t384 [.int .i64 t384] from rfl) (Reps.one (show Kd.M (Kd.int .i64) _ _ _ t387 [.int .i64 t387] from rfl) (Reps.none _ _))))
       intro v389 w15 ho16 hb hg_ hnew_
       clear hg_ hnew_
       (first | rw [← Ny388.out] at ho16 | (simp only [Int.reduceToNat] at ho16; rw [← Ny388.out] at ho16))
       have n0_ := Z0.mk (Kd.R_lower ho16 (below_size (by repeat (first | (with_reducible first | exact HB.out | apply beA | apply bpN | apply bd1) | exact HB.out))))
       have n1_ := Z0.mk (below_step (by repeat (first | (with_reducible first | exact HB.out | apply beA | apply bpN | apply bd1) | exact HB.out)) hb)
       clear HB
       have HO390 := n0_
       have HB := n1_
       clear n0_ n1_
       clear hb ho16
       obtain ⟨Ao17, co17, eo17⟩ := Kd.R_slice HO390.out
       (first | subst eo17 | (injection eo17 with f1_ f2_ f3_; have f4_ := f1_.symm; have f5_ := f3_.symm; clear f1_ f2_ f3_; subst f4_; subst f5_))
       refine hK.out _ _ ⟨((HB.out.cell (World.block_lt_of_cell? w _ hw380_0)).trans hw380_0), ((HB.out.cell (World.block_lt_of_cell? w _ hw380_1)).trans hw380_1), ((HB.out.cell (World.block_lt_of_cell? w _ hw381_0)).trans hw381_0), ((HB.out.cell (World.block_lt_of_cell? w _ hw381_1)).trans hw381_1), ((HB.out.cell (World.block_lt_of_cell? w _ hw381_2)).trans hw381_2), ((HB.out.cell (World.block_lt_of_cell? w _ hw381_3)).trans hw381_3), ((HB.out.cell (World.block_lt_of_cell? w _ hw382_0)).trans hw382_0), ((HB.out.cell (World.block_lt_of_cell? w _ hw382_1)).trans hw382_1), ((HB.out.cell (World.block_lt_of_cell? w _ hw383_0)).trans hw383_0), ((HB.out.cell (World.block_lt_of_cell? w _ hw383_1)).trans hw383_1), ((HB.out.cell (World.block_lt_of_cell? w _ hw383_2)).trans hw383_2), ((HB.out.cell (World.block_lt_of_cell? w _ hw383_3)).trans hw383_3), ((HB.out.cell (World.block_lt_of_cell? w _ hw385_0)).trans hw385_0), ((HB.out.cell (World.block_lt_of_cell? w _ hw385_1)).trans hw385_1), ((HB.out.cell (World.block_lt_of_cell? w _ hw386_0)).trans hw386_0), ((HB.out.cell (World.block_lt_of_cell? w _ hw386_1)).trans hw386_1)⟩ (fun hHeld => ?_)
       clear hK K
       refine norm_ (a' := ?_) ?_ ?_
       rotate_left
       ·show Act.put _ (some 33) _ = _
        simp only [Act.put, qA, qB, qC, i64_w, i32_w]
        rfl
       refine one_ (i := 27) (N := some 34) #[true, true, true, true, true, true, true, true, true, true, true, true, true, true, true, true, true, true, true, true, true, true, true, true, true, true, true, true, false, false] rfl rfl (one_of HT_.out (by kernel_rfl)) (by decide) (fun K hK => ?_)
       refine goes_ Try.func39 (by kernel_rfl) rfl #[.slice Ao17 y388.length co17] (by rfl) rfl rfl (by (try simp only [List.map_toArray, List.map_cons, List.map_nil]); first | done | rfl | (simp only [List.length_drop, List.length_take]; rfl)) ?_
       with_reducible refine (cmp_Or_int.calls k _ _ y388 t391 _ ?side1 ?side2 A12.out).mono ?_
       (case side1 => repeat (first | exact (Kd.R_reads' HO390.out).2.2 | (with_reducible refine Kd.C_alloc ?_ _) | (with_reducible refine Kd.C_drewN ?_ _) | (with_reducible refine Kd.C_drew ?_)))
       (case side2 => exact (Kd.R_reads' HO390.out).2.1)
       rintro e w' ⟨rfl, ⟨nd, rfl⟩⟩
       refine ⟨_, rfl, ?_⟩
       refine hK.out _ _ ⟨((HB.out.cell (World.block_lt_of_cell? w _ hw380_0)).trans hw380_0), ((HB.out.cell (World.block_lt_of_cell? w _ hw380_1)).trans hw380_1), ((HB.out.cell (World.block_lt_of_cell? w _ hw381_0)).trans hw381_0), ((HB.out.cell (World.block_lt_of_cell? w _ hw381_1)).trans hw381_1), ((HB.out.cell (World.block_lt_of_cell? w _ hw381_2)).trans hw381_2), ((HB.out.cell (World.block_lt_of_cell? w _ hw381_3)).trans hw381_3), ((HB.out.cell (World.block_lt_of_cell? w _ hw382_0)).trans hw382_0), ((HB.out.cell (World.block_lt_of_cell? w _ hw382_1)).trans hw382_1), ((HB.out.cell (World.block_lt_of_cell? w _ hw383_0)).trans hw383_0), ((HB.out.cell (World.block_lt_of_cell? w _ hw383_1)).trans hw383_1), ((HB.out.cell (World.block_lt_of_cell? w _ hw383_2)).trans hw383_2), ((HB.out.cell (World.block_lt_of_cell? w _ hw383_3)).trans hw383_3), ((HB.out.cell (World.block_lt_of_cell? w _ hw385_0)).trans hw385_0), ((HB.out.cell (World.block_lt_of_cell? w _ hw385_1)).trans hw385_1), ((HB.out.cell (World.block_lt_of_cell? w _ hw386_0)).trans hw386_0), ((HB.out.cell (World.block_lt_of_cell? w _ hw386_1)).trans hw386_1)⟩ (fun hHeld => ?_)
       clear hK K
       refine norm_ (a' := ?_) ?_ ?_
       rotate_left
       ·show Act.put _ (some 34) _ = _
        simp only [Act.put, qA, qB, qC, i64_w, i32_w]
        rfl
       refine pure_ (i := 28) (N := some 35) (v := ?_) (a' := ?_) #[true, true, true, true, true, true, true, true, true, true, true, true, true, true, true, true, true, true, true, true, true, true, true, true, true, true, true, true, true, false] rfl rfl (any_of HT_.out (by kernel_rfl)) (fun _ _ _ h => h) (Or.inl ⟨by rfl, ?_⟩) ?_ ?_
       rotate_left
       ·intro w'
        go_simp
        with_reducible rfl
       rotate_left
       ·simp only [Act.put, qA, qB, qC, i64_w, i32_w]
        rfl
       refine pure_ (i := 29) (N := some 6) (v := ?_) (a' := ?_) #[true, true, true, true, true, true, true, true, true, true, true, true, true, true, true, true, true, true, true, true, true, true, true, true, true, true, true, true, true, true] rfl rfl (any_of HT_.out (by kernel_rfl)) (fun _ _ _ h => h) (Or.inl ⟨by rfl, ?_⟩) ?_ ?_
       rotate_left
       ·intro w'
        go_simp
        with_reducible rfl
       rotate_left
       ·simp only [Act.put, qA, qB, qC, i64_w, i32_w]
        rfl
       refine done_ (done_of HT_.out (by kernel_rfl)) ?_
       try go_wp2
       go_ret
       exact ⟨by first | rfl | (simp [errW_none, errW_some] <;> rfl) | (simp [*, errW_none, errW_some] <;> rfl), by repeat (first | (with_reducible first | exact HB.out | apply beA | apply bpN | apply bd1) | exact HB.out)⟩
      ·rw [if_neg c9] at H
       exact absurd H (by simp)
     ·rw [if_neg c8] at H
      exact absurd H (by simp)
    ·rw [if_neg c7] at H
     exact absurd H (by simp)
   ·rw [if_neg c6] at H
    exact absurd H (by simp)
  ·rw [if_neg c5] at H
   exact absurd H (by simp)
 ·rw [if_neg c4] at H
  exact absurd H (by simp)
end Go.Proofs.Ytdeeffahfkndkaa.P
namespace Go.Proofs.Ytdeeffahfkndkaa.P
open Go.RowKit Go.Proofs.YtdeeffahfkndkaaW.PrintWords Go.Proofs.YtdeeffahfkndkaaW.PrintLast Go.Proofs.YtdeeffahfkndkaaW.PrintMore
attribute [local go_sem] max2_int min2_int max_two min_two max_three min_three max_four min_four
set_option linter.unusedVariables false
set_option linter.unusedSimpArgs false
def rows_Sorted.l0 : Nat → List (S39) → Int → Int → Option (Bool)
 | 0, _, _, _ => none
 | k + 1, x0, x5, x6 => if x6 < x5 then (if x6 > 0 then (if 0 ≤ (wrap64 (x6 - 1)) then (if (wrap64 (x6 - 1)) < (x0.length : Int) then (if 0 ≤ x6 then (if x6 < (x0.length : Int) then ((rows_Compare.f k ((rd_T39 x0 (wrap64 (x6 - 1))).f0) ((rd_T39 x0 (wrap64 (x6 - 1))).f1) ((rd_T39 x0 (wrap64 (x6 - 1))).f2) ((rd_T39 x0 (wrap64 (x6 - 1))).f3) ((rd_T39 x0 x6).f0) ((rd_T39 x0 x6).f1) ((rd_T39 x0 x6).f2) ((rd_T39 x0 x6).f3)).bind fun t155 => (if t155 ≥ 0 then (some false) else (rows_Sorted.l0 k x0 x5 (wrap64 (x6 + 1))))) else (none)) else (none)) else (none)) else (none)) else (rows_Sorted.l0 k x0 x5 (wrap64 (x6 + 1)))) else (some true)
def rows_Sorted.f (k : Nat) (l0 : List (S39)) : Option (Bool) := rows_Sorted.l0 k l0 (l0.length : Int) 0
def rows_Sorted.T4 : Bool × List (List Nat × List Nat) := (true, [([], []), ([0], [0]), ([1], [1]), ([2], [2]), ([2], [2]), ([4, 2], [2, 4]), ([3, 5, 2], [2, 3, 5]), ([6, 2], [2, 6]), ([2], [2]), ([2], [2]), ([8, 9, 2], [2, 8, 9]), ([10, 2], [2, 10]), ([7, 11, 2, 2], [2, 7, 11]), ([12, 2], [2, 12]), ([2, 13], [2, 13])])
def rows_Sorted.B4 : List Nat := [0, 1, 3, 7, 7, 23, 63, 127, 7, 7, 775, 1799, 4095, 8191, 16383]
theorem rows_Sorted.tab4 : rtab .any (opsOf Try.f25 4) = rows_Sorted.T4 := by kernel_rfl
theorem rows_Sorted.bits4 : waitsOk rows_Sorted.T4.2 rows_Sorted.B4 = true := by kernel_rfl
set_option maxHeartbeats 8000000 in
set_option maxRecDepth 100000 in
theorem rows_Sorted.calls (k : Nat) (A0 : Option Addr) (c0 : Nat) (l0 : List (S39)) (r : Bool) (w : World) (hr0 : Kd.C k39 w A0 l0.length l0) (hc0 : l0.length ≤ c0) (h : rows_Sorted.f k l0 = some r) :
  Calls Try.prog 25 #[.slice A0 l0.length c0] w fun e w' => e = .returned (.bool r) ∧ Below w.heap.size w w' := by
 have hu39 := Try.underlying39
 have HR0 := Z0.mk hr0
 have HC0 := Z0.mk hc0
 clear hr0 hc0
 have HB := Z0.mk (Below.refl w.heap.size w)
 have H : (rows_Sorted.l0 k l0 (l0.length : Int) 0) = some r := h
 clear h
 have H' := Z0.mk H
 clear H
 go_enter Try.func25, Try.ntmps25
 go_wp2
 go_loopg [6] k (fun kq v6 w' => ∃ (x6_1 : Int), v6 = .int .i64 x6_1 ∧ Z0 (rows_Sorted.l0 kq l0 (l0.length : Int) x6_1 = some r) ∧ Z0 (kq ≤ k) ∧ Z0 (Below w.heap.size w w'))
 case atStart => exact ⟨(0), (by first | rfl | (simp; done) | (simp [*]; done)), H', ⟨Nat.le_refl _⟩, ⟨by repeat (first | (with_reducible first | exact HB.out | apply beA | apply bpN | apply bd1) | exact HB.out)⟩⟩
 case round =>
  clear H'
  obtain ⟨x6_1, rfl, HA, HK1, HB⟩ := hrel
  cases gk with
  | zero => exact absurd HA.out (by simp [rows_Sorted.l0])
  | succ k1 =>
   have H := HA.out
   clear HA
   simp only [rows_Sorted.l0] at H
   by_cases c2 : x6_1 < (l0.length : Int)
   ·rw [if_pos c2] at H
    have c2b0 : decide (x6_1 < (l0.length : Int)) = true := decide_eq_true c2
    clear c2
    by_cases c3 : x6_1 > 0
    ·rw [if_pos c3] at H
     have c3b0 : decide (0 < x6_1) = true := decide_eq_true c3
     clear c3
     obtain ⟨ji4, hji4⟩ : ∃ j_ : Int, (wrap64 (x6_1 - 1)) = j_ := ⟨_, rfl⟩
     replace H : (if 0 ≤ (ji4) then (if (ji4) < (l0.length : Int) then (if 0 ≤ x6_1 then (if x6_1 < (l0.length : Int) then ((rows_Compare.f k1 ((rd_T39 l0 (ji4)).f0) ((rd_T39 l0 (ji4)).f1) ((rd_T39 l0 (ji4)).f2) ((rd_T39 l0 (ji4)).f3) ((rd_T39 l0 x6_1).f0) ((rd_T39 l0 x6_1).f1) ((rd_T39 l0 x6_1).f2) ((rd_T39 l0 x6_1).f3)).bind fun t155 => (if t155 ≥ 0 then (some false) else (rows_Sorted.l0 k1 l0 (l0.length : Int) (wrap64 (x6_1 + 1))))) else (none)) else (none)) else (none)) else (none)) = some r := by first | (rw [hji4] at H; exact H) | (simp only [hji4] at H ⊢; exact H)
     have hji4w : (IntKind.i64.wrap (x6_1 - 1)) = ji4 := (i64_w _).trans hji4
     by_cases c5 : 0 ≤ (ji4)
     ·rw [if_pos c5] at H
      have c5b0 : decide (0 ≤ (ji4)) = true := decide_eq_true c5
      clear c5
      by_cases c6 : (ji4) < (l0.length : Int)
      ·rw [if_pos c6] at H
       have c6b0 : decide ((ji4) < (l0.length : Int)) = true := decide_eq_true c6
       clear c6
       by_cases c7 : 0 ≤ x6_1
       ·rw [if_pos c7] at H
        have c7b0 : decide (0 ≤ x6_1) = true := decide_eq_true c7
        clear c7
        by_cases c8 : x6_1 < (l0.length : Int)
        ·rw [if_pos c8] at H
         have c8b0 : decide (x6_1 < (l0.length : Int)) = true := decide_eq_true c8
         clear c8
         replace H := Option.bind_eq_some_iff.mp H
         obtain ⟨t155, A90, H⟩ := H
         replace H : (if t155 ≥ 0 then (some false) else (rows_Sorted.l0 k1 l0 (l0.length : Int) (wrap64 (x6_1 + 1)))) = some r := H
         have A9 := Z0.mk A90
         clear A90
         by_cases c10 : t155 ≥ 0
         ·rw [if_pos c10] at H
          have c10b0 : decide (0 ≤ t155) = true := decide_eq_true c10
          clear c10
          obtain rfl := Option.some.inj H
          try go_wp2
          have n0_ := Z0.mk (bd1 HB.out)
          clear HB
          have HB := n0_
          clear n0_
          have p153 : 0 ≤ ((ji4) : Int) := of_decide_eq_true (by first | (with_reducible assumption) | assumption)
          have q153 : (ji4) < (l0.length : Int) := of_decide_eq_true (by first | (with_reducible assumption) | assumption)
          obtain ⟨ad153, A153_1, c153_1, A153_3, c153_3, e153, hx153_0, hx153_1, hx153_2, hx153_3, hl153_1, hi153_1, hl153_3, hi153_3⟩ := at_T39 HR0.out (ji4) p153 q153
          have hw153_3 := hx153_3
          have hw153_2 := hx153_2
          have hw153_1 := hx153_1
          have hw153_0 := hx153_0
          cases e153
          replace hx153_0 := (HB.out.cell (World.block_lt_of_cell? w _ hx153_0)).trans hx153_0
          replace hx153_1 := (HB.out.cell (World.block_lt_of_cell? w _ hx153_1)).trans hx153_1
          replace hx153_2 := (HB.out.cell (World.block_lt_of_cell? w _ hx153_2)).trans hx153_2
          replace hx153_3 := (HB.out.cell (World.block_lt_of_cell? w _ hx153_3)).trans hx153_3
          have HR153_1 := Z0.mk hi153_1
          have HC153_1 := Z0.mk hl153_1
          clear hi153_1 hl153_1
          have HR153_3 := Z0.mk hi153_3
          have HC153_3 := Z0.mk hl153_3
          clear hi153_3 hl153_3
          replace p153 := eq_true p153
          replace q153 := eq_true q153
          have p154 : 0 ≤ (x6_1 : Int) := of_decide_eq_true (by first | (with_reducible assumption) | assumption)
          have q154 : x6_1 < (l0.length : Int) := of_decide_eq_true (by first | (with_reducible assumption) | assumption)
          obtain ⟨ad154, A154_1, c154_1, A154_3, c154_3, e154, hx154_0, hx154_1, hx154_2, hx154_3, hl154_1, hi154_1, hl154_3, hi154_3⟩ := at_T39 HR0.out x6_1 p154 q154
          have hw154_3 := hx154_3
          have hw154_2 := hx154_2
          have hw154_1 := hx154_1
          have hw154_0 := hx154_0
          obtain rfl : ad153 = ad154 := (by injection e154)
          replace hx154_0 := (HB.out.cell (World.block_lt_of_cell? w _ hx154_0)).trans hx154_0
          replace hx154_1 := (HB.out.cell (World.block_lt_of_cell? w _ hx154_1)).trans hx154_1
          replace hx154_2 := (HB.out.cell (World.block_lt_of_cell? w _ hx154_2)).trans hx154_2
          replace hx154_3 := (HB.out.cell (World.block_lt_of_cell? w _ hx154_3)).trans hx154_3
          have HR154_1 := Z0.mk hi154_1
          have HC154_1 := Z0.mk hl154_1
          clear hi154_1 hl154_1
          have HR154_3 := Z0.mk hi154_3
          have HC154_3 := Z0.mk hl154_3
          clear hi154_3 hl154_3
          replace p154 := eq_true p154
          replace q154 := eq_true q154
          refine start_ (n := 15) (S := fun w' => w'.cell? (ad153.add (((ji4)).toNat * 4)) = some (.int .i64 ((rd_T39 l0 (ji4)).f0)) ∧ w'.cell? ⟨(ad153.add (((ji4)).toNat * 4)).block, (ad153.add (((ji4)).toNat * 4)).off + 1, none⟩ = some (.slice A153_1 ((rd_T39 l0 (ji4)).f1).length c153_1) ∧ w'.cell? ⟨(ad153.add (((ji4)).toNat * 4)).block, (ad153.add (((ji4)).toNat * 4)).off + 2, none⟩ = some (.int .i64 ((rd_T39 l0 (ji4)).f2)) ∧ w'.cell? ⟨(ad153.add (((ji4)).toNat * 4)).block, (ad153.add (((ji4)).toNat * 4)).off + 3, none⟩ = some (.slice A153_3 ((rd_T39 l0 (ji4)).f3).length c153_3) ∧ w'.cell? (ad153.add ((x6_1).toNat * 4)) = some (.int .i64 ((rd_T39 l0 x6_1).f0)) ∧ w'.cell? ⟨(ad153.add ((x6_1).toNat * 4)).block, (ad153.add ((x6_1).toNat * 4)).off + 1, none⟩ = some (.slice A154_1 ((rd_T39 l0 x6_1).f1).length c154_1) ∧ w'.cell? ⟨(ad153.add ((x6_1).toNat * 4)).block, (ad153.add ((x6_1).toNat * 4)).off + 2, none⟩ = some (.int .i64 ((rd_T39 l0 x6_1).f2)) ∧ w'.cell? ⟨(ad153.add ((x6_1).toNat * 4)).block, (ad153.add ((x6_1).toNat * 4)).off + 3, none⟩ = some (.slice A154_3 ((rd_T39 l0 x6_1).f3).length c154_3)) (ds := []) #[false, false, false, false, false, false, false, false, false, false, false, false, false, false, false] (by kernel_rfl) rfl rfl ⟨((HB.out.cell (World.block_lt_of_cell? w _ hw153_0)).trans hw153_0), ((HB.out.cell (World.block_lt_of_cell? w _ hw153_1)).trans hw153_1), ((HB.out.cell (World.block_lt_of_cell? w _ hw153_2)).trans hw153_2), ((HB.out.cell (World.block_lt_of_cell? w _ hw153_3)).trans hw153_3), ((HB.out.cell (World.block_lt_of_cell? w _ hw154_0)).trans hw154_0), ((HB.out.cell (World.block_lt_of_cell? w _ hw154_1)).trans hw154_1), ((HB.out.cell (World.block_lt_of_cell? w _ hw154_2)).trans hw154_2), ((HB.out.cell (World.block_lt_of_cell? w _ hw154_3)).trans hw154_3)⟩ (fun hHeld => ?_); refine with_tabW rows_Sorted.tab4 rows_Sorted.bits4 (fun HT_ HW_ => ?_)
          generalize wr.drew = w11 at HB HR153_1 HR153_3 HR154_1 HR154_3 hx153_0 hx153_1 hx153_2 hx153_3 hx154_0 hx154_1 hx154_2 hx154_3 hHeld ⊢
          refine pure_ (i := 0) (N := some 9) (v := ?_) (a' := ?_) #[true, false, false, false, false, false, false, false, false, false, false, false, false, false, false] rfl rfl (any_of HT_.out (by kernel_rfl)) (fun _ _ _ h => h) (Or.inl ⟨by rfl, ?_⟩) ?_ ?_
          rotate_left
          ·intro w'
           go_simp
           with_reducible rfl
          rotate_left
          ·simp only [Act.put, qA, qB, qC, i64_w, i32_w]
           rfl
          refine pure_ (i := 1) (N := some 10) (v := ?_) (a' := ?_) #[true, true, false, false, false, false, false, false, false, false, false, false, false, false, false] rfl rfl (any_of HT_.out (by kernel_rfl)) (fun _ _ _ h => h) (Or.inl ⟨by rfl, ?_⟩) ?_ ?_
          rotate_left
          ·intro w'
           go_simp
           with_reducible rfl
          rotate_left
          ·simp only [Act.put, qA, qB, qC, i64_w, i32_w]
           rfl
          refine pure_ (i := 2) (N := some 11) (v := ?_) (a' := ?_) #[true, true, true, false, false, false, false, false, false, false, false, false, false, false, false] rfl rfl (any_of HT_.out (by kernel_rfl)) (fun _ _ _ h => h) (Or.inl ⟨by rfl, ?_⟩) ?_ ?_
          rotate_left
          ·intro w'
           go_simp
           with_reducible rfl
          rotate_left
          ·simp only [Act.put, qA, qB, qC, i64_w, i32_w]
           rfl
          refine pure_ (i := 3) (N := some 12) (v := ?_) (a' := ?_) #[true, true, true, true, false, false, false, false, false, false, false, false, false, false, false] rfl rfl (any_of HT_.out (by kernel_rfl)) (fun _ _ _ h => h) (Or.inl ⟨by rfl, ?_⟩) ?_ ?_
          rotate_left
          ·intro w'
           go_simp
           with_reducible rfl
          rotate_left
          ·simp only [Act.put, qA, qB, qC, i64_w, i32_w]
           rfl
          refine pure_ (i := 4) (N := some 13) (v := ?_) (a' := ?_) #[true, true, true, true, true, false, false, false, false, false, false, false, false, false, false] rfl rfl (any_of HT_.out (by kernel_rfl)) (fun _ _ _ h => h) (Or.inl ⟨by rfl, ?_⟩) ?_ ?_
          rotate_left
          ·intro w'
           go_simp
           with_reducible rfl
          rotate_left
          ·simp only [Act.put, qA, qB, qC, i64_w, i32_w]
           rfl
          refine pure_ (i := 5) (N := some 14) (v := ?_) (a' := ?_) #[true, true, true, true, true, true, false, false, false, false, false, false, false, false, false] rfl rfl (any_of HT_.out (by kernel_rfl)) (fun _ _ _ h => h) (Or.inl ⟨by rfl, ?_⟩) ?_ ?_
          rotate_left
          ·intro w'
           go_simp
           with_reducible rfl
          rotate_left
          ·simp only [Act.put, qA, qB, qC, i64_w, i32_w]
           rfl
          refine pure_ (i := 6) (N := some 15) (v := ?_) (a' := ?_) #[true, true, true, true, true, true, true, false, false, false, false, false, false, false, false] rfl rfl (any_of HT_.out (by kernel_rfl)) (fun _ _ _ h => h) (Or.inl ⟨by rfl, ?_⟩) ?_ ?_
          rotate_left
          ·intro w'
           go_simp
           with_reducible rfl
          rotate_left
          ·simp only [Act.put, qA, qB, qC, i64_w, i32_w]
           rfl
          refine pure_ (i := 8) (N := some 17) (v := ?_) (a' := ?_) #[true, true, true, true, true, true, true, false, true, false, false, false, false, false, false] rfl rfl (any_of HT_.out (by kernel_rfl)) (fun _ _ _ h => h) (Or.inl ⟨by rfl, ?_⟩) ?_ ?_
          rotate_left
          ·intro w'
           go_simp
           with_reducible rfl
          rotate_left
          ·simp only [Act.put, qA, qB, qC, i64_w, i32_w]
           rfl
          refine pure_ (i := 9) (N := some 18) (v := ?_) (a' := ?_) #[true, true, true, true, true, true, true, false, true, true, false, false, false, false, false] rfl rfl (any_of HT_.out (by kernel_rfl)) (fun _ _ _ h => h) (Or.inl ⟨by rfl, ?_⟩) ?_ ?_
          rotate_left
          ·intro w'
           go_simp
           with_reducible rfl
          rotate_left
          ·simp only [Act.put, qA, qB, qC, i64_w, i32_w]
           rfl
          refine pure_ (i := 10) (N := some 19) (v := ?_) (a' := ?_) #[true, true, true, true, true, true, true, false, true, true, true, false, false, false, false] rfl rfl (any_of HT_.out (by kernel_rfl)) (fun _ _ _ h => h) (Or.inl ⟨by rfl, ?_⟩) ?_ ?_
          rotate_left
          ·intro w'
           go_simp
           with_reducible rfl
          rotate_left
          ·simp only [Act.put, qA, qB, qC, i64_w, i32_w]
           rfl
          refine take_ (i := 7) (N := some 16) (v := ?_) (a' := ?_) #[true, true, true, true, true, true, true, true, true, true, true, false, false, false, false] rfl rfl (take_ofW HT_.out HW_.out (by kernel_rfl)) (fun _ _ _ h => h) (Or.inl ⟨by rfl, ?_⟩) hHeld ?_ ?_
          rotate_left
          ·rintro w' ⟨s0, s1, s2, s3, s4, s5, s6, s7⟩
           go_simp
           with_reducible rfl
          rotate_left
          ·simp only [Act.put, qA, qB, qC, i64_w, i32_w]
           rfl
          refine take_ (i := 11) (N := some 20) (v := ?_) (a' := ?_) #[true, true, true, true, true, true, true, true, true, true, true, true, false, false, false] rfl rfl (take_ofW HT_.out HW_.out (by kernel_rfl)) (fun _ _ _ h => h) (Or.inl ⟨by rfl, ?_⟩) hHeld ?_ ?_
          rotate_left
          ·rintro w' ⟨s0, s1, s2, s3, s4, s5, s6, s7⟩
           go_simp
           with_reducible rfl
          rotate_left
          ·simp only [Act.put, qA, qB, qC, i64_w, i32_w]
           rfl
          refine one_ (i := 12) (N := some 21) #[true, true, true, true, true, true, true, true, true, true, true, true, true, false, false] rfl rfl (one_of HT_.out (by kernel_rfl)) (by decide) (fun K hK => ?_)
          refine goes_ Try.func19 (by kernel_rfl) rfl #[.agg #[.int .i64 ((rd_T39 l0 (ji4)).f0), .slice A153_1 ((rd_T39 l0 (ji4)).f1).length c153_1, .int .i64 ((rd_T39 l0 (ji4)).f2), .slice A153_3 ((rd_T39 l0 (ji4)).f3).length c153_3], .agg #[.int .i64 ((rd_T39 l0 x6_1).f0), .slice A154_1 ((rd_T39 l0 x6_1).f1).length c154_1, .int .i64 ((rd_T39 l0 x6_1).f2), .slice A154_3 ((rd_T39 l0 x6_1).f3).length c154_3]] (by rfl) rfl rfl (by (try simp only [List.map_toArray, List.map_cons, List.map_nil]); first | done | (simp only [hji4]; rfl) | rfl | (simp only [List.length_drop, List.length_take]; rfl)) ?_
          with_reducible refine (rows_Compare.calls k1 ((rd_T39 l0 (ji4)).f0) _ _ ((rd_T39 l0 (ji4)).f1) ((rd_T39 l0 (ji4)).f2) _ _ ((rd_T39 l0 (ji4)).f3) ((rd_T39 l0 x6_1).f0) _ _ ((rd_T39 l0 x6_1).f1) ((rd_T39 l0 x6_1).f2) _ _ ((rd_T39 l0 x6_1).f3) t155 _ ?side1 ?side2 ?side3 ?side4 ?side5 ?side6 ?side7 ?side8 A9.out).mono ?_
          (case side1 => repeat (first | exact (Kd.C_below HR153_1.out HB.out) | (with_reducible refine Kd.C_alloc ?_ _) | (with_reducible refine Kd.C_drewN ?_ _) | (with_reducible refine Kd.C_drew ?_)))
          (case side2 => exact HC153_1.out)
          (case side3 => repeat (first | exact (Kd.C_below HR153_3.out HB.out) | (with_reducible refine Kd.C_alloc ?_ _) | (with_reducible refine Kd.C_drewN ?_ _) | (with_reducible refine Kd.C_drew ?_)))
          (case side4 => exact HC153_3.out)
          (case side5 => repeat (first | exact (Kd.C_below HR154_1.out HB.out) | (with_reducible refine Kd.C_alloc ?_ _) | (with_reducible refine Kd.C_drewN ?_ _) | (with_reducible refine Kd.C_drew ?_)))
          (case side6 => exact HC154_1.out)
          (case side7 => repeat (first | exact (Kd.C_below HR154_3.out HB.out) | (with_reducible refine Kd.C_alloc ?_ _) | (with_reducible refine Kd.C_drewN ?_ _) | (with_reducible refine Kd.C_drew ?_)))
          (case side8 => exact HC154_3.out)
          rintro e w12 ⟨rfl, hb⟩
          refine ⟨_, rfl, ?_⟩
          have n0_ := Z0.mk (below_step (by repeat (first | (with_reducible first | exact HB.out | apply beA | apply bpN | apply bd1) | exact HB.out)) hb)
          clear HB
          have HB := n0_
          clear n0_
          (try clear hb)
          (try clear hb2)
          (try clear hk)
          (try clear hi)
          refine hK.out _ _ ⟨((HB.out.cell (World.block_lt_of_cell? w _ hw153_0)).trans hw153_0), ((HB.out.cell (World.block_lt_of_cell? w _ hw153_1)).trans hw153_1), ((HB.out.cell (World.block_lt_of_cell? w _ hw153_2)).trans hw153_2), ((HB.out.cell (World.block_lt_of_cell? w _ hw153_3)).trans hw153_3), ((HB.out.cell (World.block_lt_of_cell? w _ hw154_0)).trans hw154_0), ((HB.out.cell (World.block_lt_of_cell? w _ hw154_1)).trans hw154_1), ((HB.out.cell (World.block_lt_of_cell? w _ hw154_2)).trans hw154_2), ((HB.out.cell (World.block_lt_of_cell? w _ hw154_3)).trans hw154_3)⟩ (fun hHeld => ?_)
          clear hK K
          refine norm_ (a' := ?_) ?_ ?_
          rotate_left
          ·show Act.put _ (some 21) _ = _
           simp only [Act.put, qA, qB, qC, i64_w, i32_w]
           rfl
          refine pure_ (i := 13) (N := some 22) (v := ?_) (a' := ?_) #[true, true, true, true, true, true, true, true, true, true, true, true, true, true, false] rfl rfl (any_of HT_.out (by kernel_rfl)) (fun _ _ _ h => h) (Or.inl ⟨by rfl, ?_⟩) ?_ ?_
          rotate_left
          ·intro w'
           go_simp
           with_reducible rfl
          rotate_left
          ·simp only [Act.put, qA, qB, qC, i64_w, i32_w]
           rfl
          refine pure_ (i := 14) (N := some 23) (v := ?_) (a' := ?_) #[true, true, true, true, true, true, true, true, true, true, true, true, true, true, true] rfl rfl (any_of HT_.out (by kernel_rfl)) (fun _ _ _ h => h) (Or.inl ⟨by rfl, ?_⟩) ?_ ?_
          rotate_left
          ·intro w'
           go_simp
           with_reducible rfl
          rotate_left
          ·simp only [Act.put, qA, qB, qC, i64_w, i32_w]
           rfl
          refine done_ (done_of HT_.out (by kernel_rfl)) ?_
          try go_wp2
          go_ret
          exact ⟨by first | rfl | (simp [errW_none, errW_some] <;> rfl) | (simp only [← hji4]; first | rfl | (simp [errW_none, errW_some] <;> rfl)) | (simp [*, errW_none, errW_some] <;> rfl), by repeat (first | (with_reducible first | exact HB.out | apply beA | apply bpN | apply bd1) | exact HB.out)⟩
         ·rw [if_neg c10] at H
          have c10b0 : decide (0 ≤ t155) = false := decide_eq_false c10
          clear c10
          have H' := Z0.mk H
          clear H
          try go_wp2
          have n0_ := Z0.mk (bd1 HB.out)
          clear HB
          have HB := n0_
          clear n0_
          have p153 : 0 ≤ ((ji4) : Int) := of_decide_eq_true (by first | (with_reducible assumption) | assumption)
          have q153 : (ji4) < (l0.length : Int) := of_decide_eq_true (by first | (with_reducible assumption) | assumption)
          obtain ⟨ad153, A153_1, c153_1, A153_3, c153_3, e153, hx153_0, hx153_1, hx153_2, hx153_3, hl153_1, hi153_1, hl153_3, hi153_3⟩ := at_T39 HR0.out (ji4) p153 q153
          have hw153_3 := hx153_3
          have hw153_2 := hx153_2
          have hw153_1 := hx153_1
          have hw153_0 := hx153_0
          cases e153
          replace hx153_0 := (HB.out.cell (World.block_lt_of_cell? w _ hx153_0)).trans hx153_0
          replace hx153_1 := (HB.out.cell (World.block_lt_of_cell? w _ hx153_1)).trans hx153_1
          replace hx153_2 := (HB.out.cell (World.block_lt_of_cell? w _ hx153_2)).trans hx153_2
          replace hx153_3 := (HB.out.cell (World.block_lt_of_cell? w _ hx153_3)).trans hx153_3
          have HR153_1 := Z0.mk hi153_1
          have HC153_1 := Z0.mk hl153_1
          clear hi153_1 hl153_1
          have HR153_3 := Z0.mk hi153_3
          have HC153_3 := Z0.mk hl153_3
          clear hi153_3 hl153_3
          replace p153 := eq_true p153
          replace q153 := eq_true q153
          have p154 : 0 ≤ (x6_1 : Int) := of_decide_eq_true (by first | (with_reducible assumption) | assumption)
          have q154 : x6_1 < (l0.length : Int) := of_decide_eq_true (by first | (with_reducible assumption) | assumption)
          obtain ⟨ad154, A154_1, c154_1, A154_3, c154_3, e154, hx154_0, hx154_1, hx154_2, hx154_3, hl154_1, hi154_1, hl154_3, hi154_3⟩ := at_T39 HR0.out x6_1 p154 q154
          have hw154_3 := hx154_3
          have hw154_2 := hx154_2
          have hw154_1 := hx154_1
          have hw154_0 := hx154_0
          obtain rfl : ad153 = ad154 := (by injection e154)
          replace hx154_0 := (HB.out.cell (World.block_lt_of_cell? w _ hx154_0)).trans hx154_0
          replace hx154_1 := (HB.out.cell (World.block_lt_of_cell? w _ hx154_1)).trans hx154_1
          replace hx154_2 := (HB.out.cell (World.block_lt_of_cell? w _ hx154_2)).trans hx154_2
          replace hx154_3 := (HB.out.cell (World.block_lt_of_cell? w _ hx154_3)).trans hx154_3
          have HR154_1 := Z0.mk hi154_1
          have HC154_1 := Z0.mk hl154_1
          clear hi154_1 hl154_1
          have HR154_3 := Z0.mk hi154_3
          have HC154_3 := Z0.mk hl154_3
          clear hi154_3 hl154_3
          replace p154 := eq_true p154
          replace q154 := eq_true q154
          refine start_ (n := 15) (S := fun w' => w'.cell? (ad153.add (((ji4)).toNat * 4)) = some (.int .i64 ((rd_T39 l0 (ji4)).f0)) ∧ w'.cell? ⟨(ad153.add (((ji4)).toNat * 4)).block, (ad153.add (((ji4)).toNat * 4)).off + 1, none⟩ = some (.slice A153_1 ((rd_T39 l0 (ji4)).f1).length c153_1) ∧ w'.cell? ⟨(ad153.add (((ji4)).toNat * 4)).block, (ad153.add (((ji4)).toNat * 4)).off + 2, none⟩ = some (.int .i64 ((rd_T39 l0 (ji4)).f2)) ∧ w'.cell? ⟨(ad153.add (((ji4)).toNat * 4)).block, (ad153.add (((ji4)).toNat * 4)).off + 3, none⟩ = some (.slice A153_3 ((rd_T39 l0 (ji4)).f3).length c153_3) ∧ w'.cell? (ad153.add ((x6_1).toNat * 4)) = some (.int .i64 ((rd_T39 l0 x6_1).f0)) ∧ w'.cell? ⟨(ad153.add ((x6_1).toNat * 4)).block, (ad153.add ((x6_1).toNat * 4)).off + 1, none⟩ = some (.slice A154_1 ((rd_T39 l0 x6_1).f1).length c154_1) ∧ w'.cell? ⟨(ad153.add ((x6_1).toNat * 4)).block, (ad153.add ((x6_1).toNat * 4)).off + 2, none⟩ = some (.int .i64 ((rd_T39 l0 x6_1).f2)) ∧ w'.cell? ⟨(ad153.add ((x6_1).toNat * 4)).block, (ad153.add ((x6_1).toNat * 4)).off + 3, none⟩ = some (.slice A154_3 ((rd_T39 l0 x6_1).f3).length c154_3)) (ds := []) #[false, false, false, false, false, false, false, false, false, false, false, false, false, false, false] (by kernel_rfl) rfl rfl ⟨((HB.out.cell (World.block_lt_of_cell? w _ hw153_0)).trans hw153_0), ((HB.out.cell (World.block_lt_of_cell? w _ hw153_1)).trans hw153_1), ((HB.out.cell (World.block_lt_of_cell? w _ hw153_2)).trans hw153_2), ((HB.out.cell (World.block_lt_of_cell? w _ hw153_3)).trans hw153_3), ((HB.out.cell (World.block_lt_of_cell? w _ hw154_0)).trans hw154_0), ((HB.out.cell (World.block_lt_of_cell? w _ hw154_1)).trans hw154_1), ((HB.out.cell (World.block_lt_of_cell? w _ hw154_2)).trans hw154_2), ((HB.out.cell (World.block_lt_of_cell? w _ hw154_3)).trans hw154_3)⟩ (fun hHeld => ?_); refine with_tabW rows_Sorted.tab4 rows_Sorted.bits4 (fun HT_ HW_ => ?_)
          generalize wr.drew = w13 at HB HR153_1 HR153_3 HR154_1 HR154_3 hx153_0 hx153_1 hx153_2 hx153_3 hx154_0 hx154_1 hx154_2 hx154_3 hHeld ⊢
          refine pure_ (i := 0) (N := some 9) (v := ?_) (a' := ?_) #[true, false, false, false, false, false, false, false, false, false, false, false, false, false, false] rfl rfl (any_of HT_.out (by kernel_rfl)) (fun _ _ _ h => h) (Or.inl ⟨by rfl, ?_⟩) ?_ ?_
          rotate_left
          ·intro w'
           go_simp
           with_reducible rfl
          rotate_left
          ·simp only [Act.put, qA, qB, qC, i64_w, i32_w]
           rfl
          refine pure_ (i := 1) (N := some 10) (v := ?_) (a' := ?_) #[true, true, false, false, false, false, false, false, false, false, false, false, false, false, false] rfl rfl (any_of HT_.out (by kernel_rfl)) (fun _ _ _ h => h) (Or.inl ⟨by rfl, ?_⟩) ?_ ?_
          rotate_left
          ·intro w'
           go_simp
           with_reducible rfl
          rotate_left
          ·simp only [Act.put, qA, qB, qC, i64_w, i32_w]
           rfl
          refine pure_ (i := 2) (N := some 11) (v := ?_) (a' := ?_) #[true, true, true, false, false, false, false, false, false, false, false, false, false, false, false] rfl rfl (any_of HT_.out (by kernel_rfl)) (fun _ _ _ h => h) (Or.inl ⟨by rfl, ?_⟩) ?_ ?_
          rotate_left
          ·intro w'
           go_simp
           with_reducible rfl
          rotate_left
          ·simp only [Act.put, qA, qB, qC, i64_w, i32_w]
           rfl
          refine pure_ (i := 3) (N := some 12) (v := ?_) (a' := ?_) #[true, true, true, true, false, false, false, false, false, false, false, false, false, false, false] rfl rfl (any_of HT_.out (by kernel_rfl)) (fun _ _ _ h => h) (Or.inl ⟨by rfl, ?_⟩) ?_ ?_
          rotate_left
          ·intro w'
           go_simp
           with_reducible rfl
          rotate_left
          ·simp only [Act.put, qA, qB, qC, i64_w, i32_w]
           rfl
          refine pure_ (i := 4) (N := some 13) (v := ?_) (a' := ?_) #[true, true, true, true, true, false, false, false, false, false, false, false, false, false, false] rfl rfl (any_of HT_.out (by kernel_rfl)) (fun _ _ _ h => h) (Or.inl ⟨by rfl, ?_⟩) ?_ ?_
          rotate_left
          ·intro w'
           go_simp
           with_reducible rfl
          rotate_left
          ·simp only [Act.put, qA, qB, qC, i64_w, i32_w]
           rfl
          refine pure_ (i := 5) (N := some 14) (v := ?_) (a' := ?_) #[true, true, true, true, true, true, false, false, false, false, false, false, false, false, false] rfl rfl (any_of HT_.out (by kernel_rfl)) (fun _ _ _ h => h) (Or.inl ⟨by rfl, ?_⟩) ?_ ?_
          rotate_left
          ·intro w'
           go_simp
           with_reducible rfl
          rotate_left
          ·simp only [Act.put, qA, qB, qC, i64_w, i32_w]
           rfl
          refine pure_ (i := 6) (N := some 15) (v := ?_) (a' := ?_) #[true, true, true, true, true, true, true, false, false, false, false, false, false, false, false] rfl rfl (any_of HT_.out (by kernel_rfl)) (fun _ _ _ h => h) (Or.inl ⟨by rfl, ?_⟩) ?_ ?_
          rotate_left
          ·intro w'
           go_simp
           with_reducible rfl
          rotate_left
          ·simp only [Act.put, qA, qB, qC, i64_w, i32_w]
           rfl
          refine pure_ (i := 8) (N := some 17) (v := ?_) (a' := ?_) #[true, true, true, true, true, true, true, false, true, false, false, false, false, false, false] rfl rfl (any_of HT_.out (by kernel_rfl)) (fun _ _ _ h => h) (Or.inl ⟨by rfl, ?_⟩) ?_ ?_
          rotate_left
          ·intro w'
           go_simp
           with_reducible rfl
          rotate_left
          ·simp only [Act.put, qA, qB, qC, i64_w, i32_w]
           rfl
          refine pure_ (i := 9) (N := some 18) (v := ?_) (a' := ?_) #[true, true, true, true, true, true, true, false, true, true, false, false, false, false, false] rfl rfl (any_of HT_.out (by kernel_rfl)) (fun _ _ _ h => h) (Or.inl ⟨by rfl, ?_⟩) ?_ ?_
          rotate_left
          ·intro w'
           go_simp
           with_reducible rfl
          rotate_left
          ·simp only [Act.put, qA, qB, qC, i64_w, i32_w]
           rfl
          refine pure_ (i := 10) (N := some 19) (v := ?_) (a' := ?_) #[true, true, true, true, true, true, true, false, true, true, true, false, false, false, false] rfl rfl (any_of HT_.out (by kernel_rfl)) (fun _ _ _ h => h) (Or.inl ⟨by rfl, ?_⟩) ?_ ?_
          rotate_left
          ·intro w'
           go_simp
           with_reducible rfl
          rotate_left
          ·simp only [Act.put, qA, qB, qC, i64_w, i32_w]
           rfl
          refine take_ (i := 7) (N := some 16) (v := ?_) (a' := ?_) #[true, true, true, true, true, true, true, true, true, true, true, false, false, false, false] rfl rfl (take_ofW HT_.out HW_.out (by kernel_rfl)) (fun _ _ _ h => h) (Or.inl ⟨by rfl, ?_⟩) hHeld ?_ ?_
          rotate_left
          ·rintro w' ⟨s0, s1, s2, s3, s4, s5, s6, s7⟩
           go_simp
           with_reducible rfl
          rotate_left
          ·simp only [Act.put, qA, qB, qC, i64_w, i32_w]
           rfl
          refine take_ (i := 11) (N := some 20) (v := ?_) (a' := ?_) #[true, true, true, true, true, true, true, true, true, true, true, true, false, false, false] rfl rfl (take_ofW HT_.out HW_.out (by kernel_rfl)) (fun _ _ _ h => h) (Or.inl ⟨by rfl, ?_⟩) hHeld ?_ ?_
          rotate_left
          ·rintro w' ⟨s0, s1, s2, s3, s4, s5, s6, s7⟩
           go_simp
           with_reducible rfl
          rotate_left
          ·simp only [Act.put, qA, qB, qC, i64_w, i32_w]
           rfl
          refine one_ (i := 12) (N := some 21) #[true, true, true, true, true, true, true, true, true, true, true, true, true, false, false] rfl rfl (one_of HT_.out (by kernel_rfl)) (by decide) (fun K hK => ?_)
          refine goes_ Try.func19 (by kernel_rfl) rfl #[.agg #[.int .i64 ((rd_T39 l0 (ji4)).f0), .slice A153_1 ((rd_T39 l0 (ji4)).f1).length c153_1, .int .i64 ((rd_T39 l0 (ji4)).f2), .slice A153_3 ((rd_T39 l0 (ji4)).f3).length c153_3], .agg #[.int .i64 ((rd_T39 l0 x6_1).f0), .slice A154_1 ((rd_T39 l0 x6_1).f1).length c154_1, .int .i64 ((rd_T39 l0 x6_1).f2), .slice A154_3 ((rd_T39 l0 x6_1).f3).length c154_3]] (by rfl) rfl rfl (by (try simp only [List.map_toArray, List.map_cons, List.map_nil]); first | done | (simp only [hji4]; rfl) | rfl | (simp only [List.length_drop, List.length_take]; rfl)) ?_
          with_reducible refine (rows_Compare.calls k1 ((rd_T39 l0 (ji4)).f0) _ _ ((rd_T39 l0 (ji4)).f1) ((rd_T39 l0 (ji4)).f2) _ _ ((rd_T39 l0 (ji4)).f3) ((rd_T39 l0 x6_1).f0) _ _ ((rd_T39 l0 x6_1).f1) ((rd_T39 l0 x6_1).f2) _ _ ((rd_T39 l0 x6_1).f3) t155 _ ?side1 ?side2 ?side3 ?side4 ?side5 ?side6 ?side7 ?side8 A9.out).mono ?_
          (case side1 => repeat (first | exact (Kd.C_below HR153_1.out HB.out) | (with_reducible refine Kd.C_alloc ?_ _) | (with_reducible refine Kd.C_drewN ?_ _) | (with_reducible refine Kd.C_drew ?_)))
          (case side2 => exact HC153_1.out)
          (case side3 => repeat (first | exact (Kd.C_below HR153_3.out HB.out) | (with_reducible refine Kd.C_alloc ?_ _) | (with_reducible refine Kd.C_drewN ?_ _) | (with_reducible refine Kd.C_drew ?_)))
          (case side4 => exact HC153_3.out)
          (case side5 => repeat (first | exact (Kd.C_below HR154_1.out HB.out) | (with_reducible refine Kd.C_alloc ?_ _) | (with_reducible refine Kd.C_drewN ?_ _) | (with_reducible refine Kd.C_drew ?_)))
          (case side6 => exact HC154_1.out)
          (case side7 => repeat (first | exact (Kd.C_below HR154_3.out HB.out) | (with_reducible refine Kd.C_alloc ?_ _) | (with_reducible refine Kd.C_drewN ?_ _) | (with_reducible refine Kd.C_drew ?_)))
          (case side8 => exact HC154_3.out)
          rintro e w14 ⟨rfl, hb⟩
          refine ⟨_, rfl, ?_⟩
          have n0_ := Z0.mk (below_step (by repeat (first | (with_reducible first | exact HB.out | apply beA | apply bpN | apply bd1) | exact HB.out)) hb)
          clear HB
          have HB := n0_
          clear n0_
          (try clear hb)
          (try clear hb2)
          (try clear hk)
          (try clear hi)
          refine hK.out _ _ ⟨((HB.out.cell (World.block_lt_of_cell? w _ hw153_0)).trans hw153_0), ((HB.out.cell (World.block_lt_of_cell? w _ hw153_1)).trans hw153_1), ((HB.out.cell (World.block_lt_of_cell? w _ hw153_2)).trans hw153_2), ((HB.out.cell (World.block_lt_of_cell? w _ hw153_3)).trans hw153_3), ((HB.out.cell (World.block_lt_of_cell? w _ hw154_0)).trans hw154_0), ((HB.out.cell (World.block_lt_of_cell? w _ hw154_1)).trans hw154_1), ((HB.out.cell (World.block_lt_of_cell? w _ hw154_2)).trans hw154_2), ((HB.out.cell (World.block_lt_of_cell? w _ hw154_3)).trans hw154_3)⟩ (fun hHeld => ?_)
          clear hK K
          refine norm_ (a' := ?_) ?_ ?_
          rotate_left
          ·show Act.put _ (some 21) _ = _
           simp only [Act.put, qA, qB, qC, i64_w, i32_w]
           rfl
          refine pure_ (i := 13) (N := some 22) (v := ?_) (a' := ?_) #[true, true, true, true, true, true, true, true, true, true, true, true, true, true, false] rfl rfl (any_of HT_.out (by kernel_rfl)) (fun _ _ _ h => h) (Or.inl ⟨by rfl, ?_⟩) ?_ ?_
          rotate_left
          ·intro w'
           go_simp
           with_reducible rfl
          rotate_left
          ·simp only [Act.put, qA, qB, qC, i64_w, i32_w]
           rfl
          refine pure_ (i := 14) (N := some 23) (v := ?_) (a' := ?_) #[true, true, true, true, true, true, true, true, true, true, true, true, true, true, true] rfl rfl (any_of HT_.out (by kernel_rfl)) (fun _ _ _ h => h) (Or.inl ⟨by rfl, ?_⟩) ?_ ?_
          rotate_left
          ·intro w'
           go_simp
           with_reducible rfl
          rotate_left
          ·simp only [Act.put, qA, qB, qC, i64_w, i32_w]
           rfl
          refine done_ (done_of HT_.out (by kernel_rfl)) ?_
          try go_wp2
          go_roundg k1
          case measure => have := HK1.out; omega
          case rel => exact ⟨(wrap64 (x6_1 + 1)), (by first | rfl | (simp; done) | (simp [*]; done)), H', ⟨by have := HK1.out; omega⟩, ⟨by repeat (first | (with_reducible first | exact HB.out | apply beA | apply bpN | apply bd1) | exact HB.out)⟩⟩
        ·rw [if_neg c8] at H
         exact absurd H (by simp)
       ·rw [if_neg c7] at H
        exact absurd H (by simp)
      ·rw [if_neg c6] at H
       exact absurd H (by simp)
     ·rw [if_neg c5] at H
      exact absurd H (by simp)
    ·rw [if_neg c3] at H
     have c3b0 : decide (0 < x6_1) = false := decide_eq_false c3
     clear c3
     have H' := Z0.mk H
     clear H
     try go_wp2
     have n0_ := Z0.mk (bd1 HB.out)
     clear HB
     have HB := n0_
     clear n0_
     refine start_ (n := 15) (S := fun w' => True) (ds := []) #[false, false, false, false, false, false, false, false, false, false, false, false, false, false, false] (by kernel_rfl) rfl rfl trivial (fun hHeld => ?_); refine with_tabW rows_Sorted.tab4 rows_Sorted.bits4 (fun HT_ HW_ => ?_)
     generalize wr.drew = w15 at HB hHeld ⊢
     refine pure_ (i := 0) (N := some 9) (v := ?_) (a' := ?_) #[true, false, false, false, false, false, false, false, false, false, false, false, false, false, false] rfl rfl (any_of HT_.out (by kernel_rfl)) (fun _ _ _ h => h) (Or.inl ⟨by rfl, ?_⟩) ?_ ?_
     rotate_left
     ·intro w'
      go_simp
      with_reducible rfl
     rotate_left
     ·simp only [Act.put, qA, qB, qC, i64_w, i32_w]
      rfl
     refine pure_ (i := 1) (N := some 10) (v := ?_) (a' := ?_) #[true, true, false, false, false, false, false, false, false, false, false, false, false, false, false] rfl rfl (any_of HT_.out (by kernel_rfl)) (fun _ _ _ h => h) (Or.inl ⟨by rfl, ?_⟩) ?_ ?_
     rotate_left
     ·intro w'
      go_simp
      with_reducible rfl
     rotate_left
     ·simp only [Act.put, qA, qB, qC, i64_w, i32_w]
      rfl
     refine pure_ (i := 2) (N := some 11) (v := ?_) (a' := ?_) #[true, true, true, false, false, false, false, false, false, false, false, false, false, false, false] rfl rfl (any_of HT_.out (by kernel_rfl)) (fun _ _ _ h => h) (Or.inl ⟨by rfl, ?_⟩) ?_ ?_
     rotate_left
     ·intro w'
      go_simp
      with_reducible rfl
     rotate_left
     ·simp only [Act.put, qA, qB, qC, i64_w, i32_w]
      rfl
     refine pure_ (i := 3) (N := some 12) (v := undef) (a' := ?_) #[true, true, true, true, false, false, false, false, false, false, false, false, false, false, false] rfl rfl (any_of HT_.out (by kernel_rfl)) (fun _ _ _ h => h) (Or.inr ⟨by rfl, rfl⟩) ?_ ?_
     rotate_left
     ·simp only [Act.put, qA, qB, qC, i64_w, i32_w]
      rfl
     refine pure_ (i := 4) (N := some 13) (v := undef) (a' := ?_) #[true, true, true, true, true, false, false, false, false, false, false, false, false, false, false] rfl rfl (any_of HT_.out (by kernel_rfl)) (fun _ _ _ h => h) (Or.inr ⟨by rfl, rfl⟩) ?_ ?_
     rotate_left
     ·simp only [Act.put, qA, qB, qC, i64_w, i32_w]
      rfl
     refine pure_ (i := 5) (N := some 14) (v := undef) (a' := ?_) #[true, true, true, true, true, true, false, false, false, false, false, false, false, false, false] rfl rfl (any_of HT_.out (by kernel_rfl)) (fun _ _ _ h => h) (Or.inr ⟨by rfl, rfl⟩) ?_ ?_
     rotate_left
     ·simp only [Act.put, qA, qB, qC, i64_w, i32_w]
      rfl
     refine pure_ (i := 6) (N := some 15) (v := undef) (a' := ?_) #[true, true, true, true, true, true, true, false, false, false, false, false, false, false, false] rfl rfl (any_of HT_.out (by kernel_rfl)) (fun _ _ _ h => h) (Or.inr ⟨by rfl, rfl⟩) ?_ ?_
     rotate_left
     ·simp only [Act.put, qA, qB, qC, i64_w, i32_w]
      rfl
     refine pure_ (i := 7) (N := some 16) (v := undef) (a' := ?_) #[true, true, true, true, true, true, true, true, false, false, false, false, false, false, false] rfl rfl (any_of HT_.out (by kernel_rfl)) (fun _ _ _ h => h) (Or.inr ⟨by rfl, rfl⟩) ?_ ?_
     rotate_left
     ·simp only [Act.put, qA, qB, qC, i64_w, i32_w]
      rfl
     refine pure_ (i := 8) (N := some 17) (v := undef) (a' := ?_) #[true, true, true, true, true, true, true, true, true, false, false, false, false, false, false] rfl rfl (any_of HT_.out (by kernel_rfl)) (fun _ _ _ h => h) (Or.inr ⟨by rfl, rfl⟩) ?_ ?_
     rotate_left
     ·simp only [Act.put, qA, qB, qC, i64_w, i32_w]
      rfl
     refine pure_ (i := 9) (N := some 18) (v := undef) (a' := ?_) #[true, true, true, true, true, true, true, true, true, true, false, false, false, false, false] rfl rfl (any_of HT_.out (by kernel_rfl)) (fun _ _ _ h => h) (Or.inr ⟨by rfl, rfl⟩) ?_ ?_
     rotate_left
     ·simp only [Act.put, qA, qB, qC, i64_w, i32_w]
      rfl
     refine pure_ (i := 10) (N := some 19) (v := undef) (a' := ?_) #[true, true, true, true, true, true, true, true, true, true, true, false, false, false, false] rfl rfl (any_of HT_.out (by kernel_rfl)) (fun _ _ _ h => h) (Or.inr ⟨by rfl, rfl⟩) ?_ ?_
     rotate_left
     ·simp only [Act.put, qA, qB, qC, i64_w, i32_w]
      rfl
     refine pure_ (i := 11) (N := some 20) (v := undef) (a' := ?_) #[true, true, true, true, true, true, true, true, true, true, true, true, false, false, false] rfl rfl (any_of HT_.out (by kernel_rfl)) (fun _ _ _ h => h) (Or.inr ⟨by rfl, rfl⟩) ?_ ?_
     rotate_left
     ·simp only [Act.put, qA, qB, qC, i64_w, i32_w]
      rfl
     refine pure_ (i := 12) (N := some 21) (v := undef) (a' := ?_) #[true, true, true, true, true, true, true, true, true, true, true, true, true, false, false] rfl rfl (any_of HT_.out (by kernel_rfl)) (fun _ _ _ h => h) (Or.inr ⟨by rfl, rfl⟩) ?_ ?_
     rotate_left
     ·simp only [Act.put, qA, qB, qC, i64_w, i32_w]
      rfl
     refine pure_ (i := 13) (N := some 22) (v := undef) (a' := ?_) #[true, true, true, true, true, true, true, true, true, true, true, true, true, true, false] rfl rfl (any_of HT_.out (by kernel_rfl)) (fun _ _ _ h => h) (Or.inr ⟨by rfl, rfl⟩) ?_ ?_
     rotate_left
     ·simp only [Act.put, qA, qB, qC, i64_w, i32_w]
      rfl
     refine pure_ (i := 14) (N := some 23) (v := ?_) (a' := ?_) #[true, true, true, true, true, true, true, true, true, true, true, true, true, true, true] rfl rfl (any_of HT_.out (by kernel_rfl)) (fun _ _ _ h => h) (Or.inl ⟨by rfl, ?_⟩) ?_ ?_
     rotate_left
     ·intro w'
      go_simp
      with_reducible rfl
     rotate_left
     ·simp only [Act.put, qA, qB, qC, i64_w, i32_w]
      rfl
     refine done_ (done_of HT_.out (by kernel_rfl)) ?_
     try go_wp2
     go_roundg k1
     case measure => have := HK1.out; omega
     case rel => exact ⟨(wrap64 (x6_1 + 1)), (by first | rfl | (simp; done) | (simp [*]; done)), H', ⟨by have := HK1.out; omega⟩, ⟨by repeat (first | (with_reducible first | exact HB.out | apply beA | apply bpN | apply bd1) | exact HB.out)⟩⟩
   ·rw [if_neg c2] at H
    have c2b0 : decide (x6_1 < (l0.length : Int)) = false := decide_eq_false c2
    clear c2
    obtain rfl := Option.some.inj H
    go_wp2
    go_ret
    exact ⟨by first | rfl | (simp [errW_none, errW_some] <;> rfl) | (simp [*, errW_none, errW_some] <;> rfl), by repeat (first | (with_reducible first | exact HB.out | apply beA | apply bpN | apply bd1) | exact HB.out)⟩
end Go.Proofs.Ytdeeffahfkndkaa.P
