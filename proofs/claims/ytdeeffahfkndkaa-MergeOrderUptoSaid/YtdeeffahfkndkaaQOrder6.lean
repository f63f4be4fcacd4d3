/- A part of the proof: lemmas and contracts of functions (printed or written by the session's program, and by hand), in dependency order. -/
import Derived.WalkLawsBesides
import Derived.Test.YtdeeffahfkndkaaQOrder3
import Derived.Test.YtdeeffahfkndkaaQOrder5
namespace Go.Proofs.Ytdeeffahfkndkaa.P
open Go.RowKit Go.Proofs.YtdeeffahfkndkaaW.PrintWords Go.Proofs.YtdeeffahfkndkaaW.PrintLast Go.Proofs.YtdeeffahfkndkaaW.PrintMore
set_option linter.unusedVariables false
set_option linter.unusedSimpArgs false
def cmp_Compare_string.f (a0 a1 : ByteArray) : Option Int := some (if Op.bytesLess a0.toList a1.toList = true then -1 else if (a0.toList == a1.toList) = true then 0 else 1)
set_option maxHeartbeats 8000000 in
set_option maxRecDepth 100000 in
theorem cmp_Compare_string.calls (a0 : ByteArray) (a1 : ByteArray) (r : Int) (w : World) (h : cmp_Compare_string.f a0 a1 = some r) :
  Calls Try.prog 59 #[.string a0, .string a1] w fun e w' => e = .returned (.int .i64 r) ∧ Drawn0 w w' := by
 obtain rfl := Option.some.inj h
 clear h
 by_cases h1 : Op.bytesLess a0.toList a1.toList = true
 ·rw [if_pos h1]
  go_enter Try.func59, Try.ntmps59
  go_wp2
  go_ret
  exact ⟨rfl, Drawn0.refl _⟩
 ·rw [if_neg h1]
  have h1 : Op.bytesLess a0.toList a1.toList = false := by simpa using h1
  by_cases h2 : (a0.toList == a1.toList) = true
  ·rw [if_pos h2]
   go_enter Try.func59, Try.ntmps59
   go_wp2
   go_ret
   exact ⟨rfl, Drawn0.refl _⟩
  ·rw [if_neg h2]
   have h2 : (a0.toList == a1.toList) = false := by simpa using h2
   go_enter Try.func59, Try.ntmps59
   go_wp2
   go_ret
   exact ⟨rfl, Drawn0.refl _⟩
end Go.Proofs.Ytdeeffahfkndkaa.P
namespace Go.Proofs.Ytdeeffahfkndkaa.P
open Go.RowKit Go.Proofs.YtdeeffahfkndkaaW.PrintWords Go.Proofs.YtdeeffahfkndkaaW.PrintLast Go.Proofs.YtdeeffahfkndkaaW.PrintMore
attribute [local go_sem] max2_int min2_int max_two min_two max_three min_three max_four min_four
set_option linter.unusedVariables false
set_option linter.unusedSimpArgs false
def slices_Compare_string_string.l0 : Nat → List ByteArray → List ByteArray → List ByteArray → Int → Int → Option (Int)
 | 0, _, _, _, _, _ => none
 | k + 1, x0, x1, x9, x10, x11 => if x11 < x10 then (if 0 ≤ x11 then (if x11 < (x9.length : Int) then (if x11 ≥ (x1.length : Int) then (some 1) else (if x11 < (x1.length : Int) then ((cmp_Compare_string.f (rdOf ByteArray.empty x9 x11) (rdOf ByteArray.empty x1 x11)).bind fun t114 => (if t114 = 0 then (slices_Compare_string_string.l0 k x0 x1 x9 x10 (wrap64 (x11 + 1))) else (some t114))) else (none))) else (none)) else (none)) else (if (x0.length : Int) < (x1.length : Int) then (some (-1)) else (some 0))
def slices_Compare_string_string.f (k : Nat) (l0 : List ByteArray) (l1 : List ByteArray) : Option (Int) := slices_Compare_string_string.l0 k l0 l1 l0 (l0.length : Int) 0
set_option maxHeartbeats 8000000 in
set_option maxRecDepth 100000 in
theorem slices_Compare_string_string.calls (k : Nat) (A0 : Option Addr) (c0 : Nat) (l0 : List ByteArray) (A1 : Option Addr) (c1 : Nat) (l1 : List ByteArray) (r : Int) (w : World) (hr0 : Kd.C Kd.string w A0 l0.length l0) (hc0 : l0.length ≤ c0) (hr1 : Kd.C Kd.string w A1 l1.length l1) (hc1 : l1.length ≤ c1) (h : slices_Compare_string_string.f k l0 l1 = some r) :
  Calls Try.prog 41 #[.slice A0 l0.length c0, .slice A1 l1.length c1] w fun e w' => e = .returned (.int .i64 r) ∧ Drawn0 w w' := by
 have HR0 := Z0.mk hr0
 have HC0 := Z0.mk hc0
 clear hr0 hc0
 have HR1 := Z0.mk hr1
 have HC1 := Z0.mk hc1
 clear hr1 hc1
 have H : (slices_Compare_string_string.l0 k l0 l1 l0 (l0.length : Int) 0) = some r := h
 clear h
 have H' := Z0.mk H
 clear H
 go_enter Try.func41, Try.ntmps41
 go_wp2
 go_loopg [11] k (fun kq v11 w' => ∃ (x11_1 : Int), v11 = .int .i64 x11_1 ∧ Z0 (slices_Compare_string_string.l0 kq l0 l1 l0 (l0.length : Int) x11_1 = some r) ∧ Z0 (kq ≤ k) ∧ Drawn0 w w')
 case atStart => exact ⟨(0), (by first | rfl | (simp; done) | (simp [*]; done)), H', ⟨Nat.le_refl _⟩, by repeat (first | exact Drawn0.refl _ | apply Drawn0.step)⟩
 case round =>
  clear H'
  try clear c1
  try clear p2
  obtain ⟨x11_1, rfl, HA, HK1, ⟨m1, rfl⟩⟩ := hrel
  cases gk with
  | zero => exact absurd HA.out (by simp [slices_Compare_string_string.l0])
  | succ k1 =>
   have H := HA.out
   clear HA
   simp only [slices_Compare_string_string.l0] at H
   by_cases c3 : x11_1 < (l0.length : Int)
   ·rw [if_pos c3] at H
    have c3b0 : decide (x11_1 < (l0.length : Int)) = true := decide_eq_true c3
    clear c3
    by_cases c4 : 0 ≤ x11_1
    ·rw [if_pos c4] at H
     have c4b0 : decide (0 ≤ x11_1) = true := decide_eq_true c4
     clear c4
     by_cases c5 : x11_1 < (l0.length : Int)
     ·rw [if_pos c5] at H
      have c5b0 : decide (x11_1 < (l0.length : Int)) = true := decide_eq_true c5
      clear c5
      by_cases c6 : x11_1 ≥ (l1.length : Int)
      ·rw [if_pos c6] at H
       have c6b0 : decide ((l1.length : Int) ≤ x11_1) = true := decide_eq_true c6
       clear c6
       obtain rfl := Option.some.inj H
       have p112 : 0 ≤ (x11_1 : Int) := of_decide_eq_true (by first | (with_reducible assumption) | assumption)
       have q112 : x11_1 < (l0.length : Int) := of_decide_eq_true (by first | (with_reducible assumption) | assumption)
       obtain ⟨ad112, e112, hx112_0⟩ := Kd.at_string HR0.out x11_1 p112 q112
       cases e112
       replace p112 := eq_true p112
       replace q112 := eq_true q112
       go_wp2
       go_ret
       exact ⟨by first | rfl | (simp; done) | (simp [*]; done), by repeat (first | exact Drawn0.refl _ | apply Drawn0.step)⟩
      ·rw [if_neg c6] at H
       have c6b0 : decide ((l1.length : Int) ≤ x11_1) = false := decide_eq_false c6
       clear c6
       by_cases c7 : x11_1 < (l1.length : Int)
       ·rw [if_pos c7] at H
        have c7b0 : decide (x11_1 < (l1.length : Int)) = true := decide_eq_true c7
        clear c7
        replace H := Option.bind_eq_some_iff.mp H
        obtain ⟨t114, A80, H⟩ := H
        replace H : (if t114 = 0 then (slices_Compare_string_string.l0 k1 l0 l1 l0 (l0.length : Int) (wrap64 (x11_1 + 1))) else (some t114)) = some r := H
        have A8 := Z0.mk A80
        clear A80
        by_cases c9 : t114 = 0
        ·rw [if_pos c9] at H
         have c9b0 : (t114 == 0) = true := beq_iff_eq.mpr c9
         have c9b1 : (t114 != 0) = false := bne_eq_false_iff_eq.mpr c9
         clear c9
         have H' := Z0.mk H
         clear H
         have p112 : 0 ≤ (x11_1 : Int) := of_decide_eq_true (by first | (with_reducible assumption) | assumption)
         have q112 : x11_1 < (l0.length : Int) := of_decide_eq_true (by first | (with_reducible assumption) | assumption)
         obtain ⟨ad112, e112, hx112_0⟩ := Kd.at_string HR0.out x11_1 p112 q112
         cases e112
         replace p112 := eq_true p112
         replace q112 := eq_true q112
         have p113 : 0 ≤ (x11_1 : Int) := of_decide_eq_true (by first | (with_reducible assumption) | assumption)
         have q113 : x11_1 < (l1.length : Int) := of_decide_eq_true (by first | (with_reducible assumption) | assumption)
         obtain ⟨ad113, e113, hx113_0⟩ := Kd.at_string HR1.out x11_1 p113 q113
         cases e113
         replace p113 := eq_true p113
         replace q113 := eq_true q113
         go_wp2_with (first | ((with_reducible refine gate_callee (f := 59) rfl ?_); refine goesL_ (some 26) rfl rfl Try.func59 (by kernel_rfl) rfl #[.string (rdOf ByteArray.empty l0 x11_1), .string (rdOf ByteArray.empty l1 x11_1)] rfl (by (try simp only [List.map_toArray, List.map_cons, List.map_nil]); first | done | rfl | (simp only [List.length_drop, List.length_take]; rfl)) ?_; (with_reducible refine (cmp_Compare_string.calls (rdOf ByteArray.empty l0 x11_1) (rdOf ByteArray.empty l1 x11_1) t114 _ A8.out).mono ?_); rintro e w' ⟨rfl, ⟨nd, rfl⟩⟩; refine ⟨_, rfl, ?_⟩))
         go_roundg k1
         case measure => have := HK1.out; omega
         case rel => exact ⟨(wrap64 (x11_1 + 1)), (by first | rfl | (simp; done) | (simp [*]; done)), H', ⟨by have := HK1.out; omega⟩, by repeat (first | exact Drawn0.refl _ | apply Drawn0.step)⟩
        ·rw [if_neg c9] at H
         have c9b0 : (t114 == 0) = false := beq_eq_false_iff_ne.mpr c9
         have c9b1 : (t114 != 0) = true := bne_iff_ne.mpr c9
         obtain rfl := Option.some.inj H
         have p112 : 0 ≤ (x11_1 : Int) := of_decide_eq_true (by first | (with_reducible assumption) | assumption)
         have q112 : x11_1 < (l0.length : Int) := of_decide_eq_true (by first | (with_reducible assumption) | assumption)
         obtain ⟨ad112, e112, hx112_0⟩ := Kd.at_string HR0.out x11_1 p112 q112
         cases e112
         replace p112 := eq_true p112
         replace q112 := eq_true q112
         have p113 : 0 ≤ (x11_1 : Int) := of_decide_eq_true (by first | (with_reducible assumption) | assumption)
         have q113 : x11_1 < (l1.length : Int) := of_decide_eq_true (by first | (with_reducible assumption) | assumption)
         obtain ⟨ad113, e113, hx113_0⟩ := Kd.at_string HR1.out x11_1 p113 q113
         cases e113
         replace p113 := eq_true p113
         replace q113 := eq_true q113
         go_wp2_with (first | ((with_reducible refine gate_callee (f := 59) rfl ?_); refine goesL_ (some 26) rfl rfl Try.func59 (by kernel_rfl) rfl #[.string (rdOf ByteArray.empty l0 x11_1), .string (rdOf ByteArray.empty l1 x11_1)] rfl (by (try simp only [List.map_toArray, List.map_cons, List.map_nil]); first | done | rfl | (simp only [List.length_drop, List.length_take]; rfl)) ?_; (with_reducible refine (cmp_Compare_string.calls (rdOf ByteArray.empty l0 x11_1) (rdOf ByteArray.empty l1 x11_1) t114 _ A8.out).mono ?_); rintro e w' ⟨rfl, ⟨nd, rfl⟩⟩; refine ⟨_, rfl, ?_⟩))
         go_ret
         exact ⟨by first | rfl | (simp; done) | (simp [*]; done), by repeat (first | exact Drawn0.refl _ | apply Drawn0.step)⟩
       ·rw [if_neg c7] at H
        exact absurd H (by simp)
     ·rw [if_neg c5] at H
      exact absurd H (by simp)
    ·rw [if_neg c4] at H
     exact absurd H (by simp)
   ·rw [if_neg c3] at H
    have c3b0 : decide (x11_1 < (l0.length : Int)) = false := decide_eq_false c3
    clear c3
    by_cases c10 : (l0.length : Int) < (l1.length : Int)
    ·rw [if_pos c10] at H
     have c10b0 : decide ((l0.length : Int) < (l1.length : Int)) = true := decide_eq_true c10
     have c10b1 : decide (l0.length < l1.length) = true := decide_eq_true (Int.ofNat_lt.mp c10)
     clear c10
     obtain rfl := Option.some.inj H
     go_wp2
     go_ret
     exact ⟨by first | rfl | (simp; done) | (simp [*]; done), by repeat (first | exact Drawn0.refl _ | apply Drawn0.step)⟩
    ·rw [if_neg c10] at H
     have c10b0 : decide ((l0.length : Int) < (l1.length : Int)) = false := decide_eq_false c10
     have c10b1 : decide (l0.length < l1.length) = false := decide_eq_false (fun h => c10 (Int.ofNat_lt.mpr h))
     clear c10
     obtain rfl := Option.some.inj H
     go_wp2
     go_ret
     exact ⟨by first | rfl | (simp; done) | (simp [*]; done), by repeat (first | exact Drawn0.refl _ | apply Drawn0.step)⟩
end Go.Proofs.Ytdeeffahfkndkaa.P
namespace Go.Proofs.Ytdeeffahfkndkaa.P
open Go.RowKit Go.Proofs.YtdeeffahfkndkaaW.PrintWords Go.Proofs.YtdeeffahfkndkaaW.PrintLast Go.Proofs.YtdeeffahfkndkaaW.PrintMore
attribute [local go_sem] max2_int min2_int max_two min_two max_three min_three max_four min_four
set_option linter.unusedVariables false
set_option linter.unusedSimpArgs false
def rows_Compare.f (k : Nat) (a0_0 : Int) (l0_1 : List ByteArray) (a0_2 : Int) (l0_3 : List (S71)) (a1_0 : Int) (l1_1 : List ByteArray) (a1_2 : Int) (l1_3 : List (S71)) : Option (Int) := (cmp_Compare_int.f a0_0 a1_0).bind fun t117 => ((slices_Compare_string_string.f k l0_1 l1_1).bind fun t118 => ((cmp_Or_int.f k (([t117, t118] : List Int))).bind fun t122 => (some t122)))
def rows_Compare.T1 : Bool × List (List Nat × List Nat) := (true, [([], []), ([0], [0]), ([], []), ([2], [2]), ([1, 3], [1, 3]), ([], []), ([5], [5]), ([], []), ([7], [7]), ([6, 8, 4], [6, 8]), ([4, 9], [4, 9]), ([10, 9], [10]), ([11, 11, 0, 1, 2, 3, 4, 5, 6, 7, 8, 9, 10, 11], [11])])
def rows_Compare.B1 : List Nat := [0, 1, 0, 4, 15, 0, 32, 0, 128, 511, 1023, 2047, 4095]
theorem rows_Compare.tab1 : rtab .any (opsOf Try.f19 1) = rows_Compare.T1 := by kernel_rfl
theorem rows_Compare.bits1 : waitsOk rows_Compare.T1.2 rows_Compare.B1 = true := by kernel_rfl
set_option maxHeartbeats 8000000 in
set_option maxRecDepth 100000 in
theorem rows_Compare.calls (k : Nat) (a0_0 : Int) (A0_1 : Option Addr) (c0_1 : Nat) (l0_1 : List ByteArray) (a0_2 : Int) (A0_3 : Option Addr) (c0_3 : Nat) (l0_3 : List (S71)) (a1_0 : Int) (A1_1 : Option Addr) (c1_1 : Nat) (l1_1 : List ByteArray) (a1_2 : Int) (A1_3 : Option Addr) (c1_3 : Nat) (l1_3 : List (S71)) (r : Int) (w : World) (hr0_1 : Kd.C Kd.string w A0_1 l0_1.length l0_1) (hc0_1 : l0_1.length ≤ c0_1) (hr0_3 : Kd.C k71 w A0_3 l0_3.length l0_3) (hc0_3 : l0_3.length ≤ c0_3) (hr1_1 : Kd.C Kd.string w A1_1 l1_1.length l1_1) (hc1_1 : l1_1.length ≤ c1_1) (hr1_3 : Kd.C k71 w A1_3 l1_3.length l1_3) (hc1_3 : l1_3.length ≤ c1_3) (h : rows_Compare.f k a0_0 l0_1 a0_2 l0_3 a1_0 l1_1 a1_2 l1_3 = some r) :
  Calls Try.prog 19 #[.agg #[.int .i64 a0_0, .slice A0_1 l0_1.length c0_1, .int .i64 a0_2, .slice A0_3 l0_3.length c0_3], .agg #[.int .i64 a1_0, .slice A1_1 l1_1.length c1_1, .int .i64 a1_2, .slice A1_3 l1_3.length c1_3]] w fun e w' => e = .returned (.int .i64 r) ∧ Below w.heap.size w w' := by
 have hu39 := Try.underlying39
 have HR0_1 := Z0.mk hr0_1
 have HC0_1 := Z0.mk hc0_1
 clear hr0_1 hc0_1
 have HR0_3 := Z0.mk hr0_3
 have HC0_3 := Z0.mk hc0_3
 clear hr0_3 hc0_3
 have HR1_1 := Z0.mk hr1_1
 have HC1_1 := Z0.mk hc1_1
 clear hr1_1 hc1_1
 have HR1_3 := Z0.mk hr1_3
 have HC1_3 := Z0.mk hc1_3
 clear hr1_3 hc1_3
 have HB := Z0.mk (Below.refl w.heap.size w)
 have H : ((cmp_Compare_int.f a0_0 a1_0).bind fun t117 => ((slices_Compare_string_string.f k l0_1 l1_1).bind fun t118 => ((cmp_Or_int.f k (([t117, t118] : List Int))).bind fun t122 => (some t122)))) = some r := h
 clear h
 replace H := Option.bind_eq_some_iff.mp H
 obtain ⟨t117, A30, H⟩ := H
 replace H : ((slices_Compare_string_string.f k l0_1 l1_1).bind fun t118 => ((cmp_Or_int.f k (([t117, t118] : List Int))).bind fun t122 => (some t122))) = some r := H
 have A3 := Z0.mk A30
 clear A30
 replace H := Option.bind_eq_some_iff.mp H
 obtain ⟨t118, A40, H⟩ := H
 replace H : ((cmp_Or_int.f k (([t117, t118] : List Int))).bind fun t122 => (some t122)) = some r := H
 have A4 := Z0.mk A40
 clear A40
 obtain ⟨y119, hy119⟩ : ∃ y_ : List Int, y_ = (([t117, t118] : List Int)) := ⟨_, rfl⟩
 replace H : ((cmp_Or_int.f k y119).bind fun t122 => (some t122)) = some r := by first | (rw [hy119]; with_reducible exact H) | (have H2_ := (Option.bind_some _ _).symm.trans H; rw [hy119]; with_reducible exact H2_) | (have H2_ := (Option.bind_some _ _).symm.trans H; with_reducible exact H2_) | with_reducible exact H | (rw [hy119]; exact H) | exact H
 have Ny119 := Z0.mk hy119
 clear hy119
 replace H := Option.bind_eq_some_iff.mp H
 obtain ⟨t122, A50, H⟩ := H
 replace H : (some t122) = some r := H
 have A5 := Z0.mk A50
 clear A50
 obtain rfl := Option.some.inj H
 go_enter Try.func19, Try.ntmps19
 try go_wp2_with (first | ((with_reducible refine gate_dst (N := 2) rfl ?_); refine box_event ?hg (N := 2) ?hd (cs := #[.int .i64 a0_0, .slice A0_1 l0_1.length c0_1, .int .i64 a0_2, .slice A0_3 l0_3.length c0_3]) (t := 39) ?hr ?_; (case hd => rfl); (case hg => rfl); (case hr => first | (go_simp; done) | (go_simp; rfl)); intro gb115 hg w6 hbox hb; have n0_ := Z0.mk (below_step (by repeat (first | (with_reducible first | exact HB.out | apply beA | apply bpN | apply bd1) | exact HB.out)) hb); have n1_ := Z0.mk (hbox); have n2_ := Z0.mk ((by rw [hg]; exact (below_size (by repeat (first | (with_reducible first | exact HB.out | apply beA | apply bpN | apply bd1) | exact HB.out))) : w.heap.size ≤ gb115)); have n3_ := Z0.mk ((by rw [hg]; exact (below_size (by repeat (first | (with_reducible first | exact HB.out | apply beA | apply bpN | apply bd1) | exact HB.out))) : w.heap.size ≤ gb115)); clear HB; have HB := n0_; have BK115 := n1_; have GW115 := n2_; have GE115 := n3_; clear n0_ n1_ n2_ n3_; clear hb hbox hg) | ((with_reducible refine gate_dst (N := 3) rfl ?_); refine box_event ?hg (N := 3) ?hd (cs := #[.int .i64 a1_0, .slice A1_1 l1_1.length c1_1, .int .i64 a1_2, .slice A1_3 l1_3.length c1_3]) (t := 39) ?hr ?_; (case hd => rfl); (case hg => rfl); (case hr => first | (go_simp; done) | (go_simp; rfl)); intro gb116 hg w7 hbox hb; have n0_ := Z0.mk (blk_below (g := gb115) (o := .cells #[.int .i64 a0_0, .slice A0_1 l0_1.length c0_1, .int .i64 a0_2, .slice A0_3 l0_3.length c0_3] 39 (0, 0)) (by (with_reducible repeat (first | refine bDN ?_ _ | refine bDr ?_ | refine bAl ?_ _)); exact BK115.out) hb); have n1_ := Z0.mk (below_step (by repeat (first | (with_reducible first | exact HB.out | apply beA | apply bpN | apply bd1 | refine beS ?_ GE115.out) | exact HB.out)) hb); have n2_ := Z0.mk (hbox); have n3_ := Z0.mk ((by rw [hg]; exact (below_size (by repeat (first | (with_reducible first | exact HB.out | apply beA | apply bpN | apply bd1 | refine beS ?_ GE115.out) | exact HB.out))) : w.heap.size ≤ gb116)); have n4_ := Z0.mk ((by rw [hg]; exact (below_size (by repeat (first | (with_reducible first | exact HB.out | apply beA | apply bpN | apply bd1 | refine beS ?_ GE115.out) | exact HB.out))) : w.heap.size ≤ gb116)); have n5_ := Z0.mk ((by rw [hg]; exact Nat.ne_of_lt (blk_lt (g := gb115) (o := .cells #[.int .i64 a0_0, .slice A0_1 l0_1.length c0_1, .int .i64 a0_2, .slice A0_3 l0_3.length c0_3] 39 (0, 0)) (by (with_reducible repeat (first | refine bDN ?_ _ | refine bDr ?_ | refine bAl ?_ _)); exact BK115.out)) : gb115 ≠ gb116)); have n6_ := Z0.mk ((by rw [hg]; exact Nat.ne_of_gt (blk_lt (g := gb115) (o := .cells #[.int .i64 a0_0, .slice A0_1 l0_1.length c0_1, .int .i64 a0_2, .slice A0_3 l0_3.length c0_3] 39 (0, 0)) (by (with_reducible repeat (first | refine bDN ?_ _ | refine bDr ?_ | refine bAl ?_ _)); exact BK115.out)) : gb116 ≠ gb115)); clear BK115; clear HB; have BK115 := n0_; have HB := n1_; have BK116 := n2_; have GW116 := n3_; have GE116 := n4_; have NB115_116 := n5_; have NB116_115 := n6_; clear n0_ n1_ n2_ n3_ n4_ n5_ n6_; clear hb hbox hg))
 have n0_ := Z0.mk (bDr BK115.out)
 have n1_ := Z0.mk (bDr BK116.out)
 have n2_ := Z0.mk (bd1 HB.out)
 clear BK115
 clear BK116
 clear HB
 have BK115 := n0_
 have BK116 := n1_
 have HB := n2_
 clear n0_ n1_ n2_
 refine start_ (n := 13) (S := fun w' => w'.cell? ⟨gb115, 0, none⟩ = some (.int .i64 a0_0) ∧ w'.cell? ⟨gb115, 1, none⟩ = some (.slice A0_1 l0_1.length c0_1) ∧ w'.cell? ⟨gb115, 2, none⟩ = some (.int .i64 a0_2) ∧ w'.cell? ⟨gb115, 3, none⟩ = some (.slice A0_3 l0_3.length c0_3) ∧ w'.cell? ⟨gb116, 0, none⟩ = some (.int .i64 a1_0) ∧ w'.cell? ⟨gb116, 1, none⟩ = some (.slice A1_1 l1_1.length c1_1) ∧ w'.cell? ⟨gb116, 2, none⟩ = some (.int .i64 a1_2) ∧ w'.cell? ⟨gb116, 3, none⟩ = some (.slice A1_3 l1_3.length c1_3)) (ds := []) #[false, false, false, false, false, false, false, false, false, false, false, false, false] (by kernel_rfl) rfl rfl ⟨(bCe BK115.out 0).trans rfl, (bCe BK115.out 1).trans rfl, (bCe BK115.out 2).trans rfl, (bCe BK115.out 3).trans rfl, (bCe BK116.out 0).trans rfl, (bCe BK116.out 1).trans rfl, (bCe BK116.out 2).trans rfl, (bCe BK116.out 3).trans rfl⟩ (fun hHeld => ?_); refine with_tabW rows_Compare.tab1 rows_Compare.bits1 (fun HT_ HW_ => ?_)
 generalize w7.drew = w8 at BK115 BK116 HB hHeld ⊢
 refine pure_ (i := 0) (N := some 5) (v := ?_) (a' := ?_) #[true, false, false, false, false, false, false, false, false, false, false, false, false] rfl rfl (any_of HT_.out (by kernel_rfl)) (fun _ _ _ h => h) (Or.inl ⟨by rfl, ?_⟩) ?_ ?_
 rotate_left
 ·intro w'
  go_simp
  with_reducible rfl
 rotate_left
 ·simp only [Act.put, qA, qB, qC, i64_w, i32_w]
  rfl
 refine pure_ (i := 2) (N := some 7) (v := ?_) (a' := ?_) #[true, false, true, false, false, false, false, false, false, false, false, false, false] rfl rfl (any_of HT_.out (by kernel_rfl)) (fun _ _ _ h => h) (Or.inl ⟨by rfl, ?_⟩) ?_ ?_
 rotate_left
 ·intro w'
  go_simp
  with_reducible rfl
 rotate_left
 ·simp only [Act.put, qA, qB, qC, i64_w, i32_w]
  rfl
 refine pure_ (i := 5) (N := some 10) (v := ?_) (a' := ?_) #[true, false, true, false, false, true, false, false, false, false, false, false, false] rfl rfl (any_of HT_.out (by kernel_rfl)) (fun _ _ _ h => h) (Or.inl ⟨by rfl, ?_⟩) ?_ ?_
 rotate_left
 ·intro w'
  go_simp
  with_reducible rfl
 rotate_left
 ·simp only [Act.put, qA, qB, qC, i64_w, i32_w]
  rfl
 refine pure_ (i := 7) (N := some 12) (v := ?_) (a' := ?_) #[true, false, true, false, false, true, false, true, false, false, false, false, false] rfl rfl (any_of HT_.out (by kernel_rfl)) (fun _ _ _ h => h) (Or.inl ⟨by rfl, ?_⟩) ?_ ?_
 rotate_left
 ·intro w'
  go_simp
  with_reducible rfl
 rotate_left
 ·simp only [Act.put, qA, qB, qC, i64_w, i32_w]
  rfl
 refine take_ (i := 1) (N := some 6) (v := ?_) (a' := ?_) #[true, true, true, false, false, true, false, true, false, false, false, false, false] rfl rfl (take_ofW HT_.out HW_.out (by kernel_rfl)) (fun _ _ _ h => h) (Or.inl ⟨by rfl, ?_⟩) hHeld ?_ ?_
 rotate_left
 ·rintro w' ⟨s0, s1, s2, s3, s4, s5, s6, s7⟩
  go_simp
  with_reducible rfl
 rotate_left
 ·simp only [Act.put, qA, qB, qC, i64_w, i32_w]
  rfl
 refine take_ (i := 3) (N := some 8) (v := ?_) (a' := ?_) #[true, true, true, true, false, true, false, true, false, false, false, false, false] rfl rfl (take_ofW HT_.out HW_.out (by kernel_rfl)) (fun _ _ _ h => h) (Or.inl ⟨by rfl, ?_⟩) hHeld ?_ ?_
 rotate_left
 ·rintro w' ⟨s0, s1, s2, s3, s4, s5, s6, s7⟩
  go_simp
  with_reducible rfl
 rotate_left
 ·simp only [Act.put, qA, qB, qC, i64_w, i32_w]
  rfl
 refine take_ (i := 6) (N := some 11) (v := ?_) (a' := ?_) #[true, true, true, true, false, true, true, true, false, false, false, false, false] rfl rfl (take_ofW HT_.out HW_.out (by kernel_rfl)) (fun _ _ _ h => h) (Or.inl ⟨by rfl, ?_⟩) hHeld ?_ ?_
 rotate_left
 ·rintro w' ⟨s0, s1, s2, s3, s4, s5, s6, s7⟩
  go_simp
  with_reducible rfl
 rotate_left
 ·simp only [Act.put, qA, qB, qC, i64_w, i32_w]
  rfl
 refine take_ (i := 8) (N := some 13) (v := ?_) (a' := ?_) #[true, true, true, true, false, true, true, true, true, false, false, false, false] rfl rfl (take_ofW HT_.out HW_.out (by kernel_rfl)) (fun _ _ _ h => h) (Or.inl ⟨by rfl, ?_⟩) hHeld ?_ ?_
 rotate_left
 ·rintro w' ⟨s0, s1, s2, s3, s4, s5, s6, s7⟩
  go_simp
  with_reducible rfl
 rotate_left
 ·simp only [Act.put, qA, qB, qC, i64_w, i32_w]
  rfl
 refine one_ (i := 4) (N := some 9) #[true, true, true, true, true, true, true, true, true, false, false, false, false] rfl rfl (one_of HT_.out (by kernel_rfl)) (by decide) (fun K hK => ?_)
 refine goes_ Try.func40 (by kernel_rfl) rfl #[.int .i64 a0_0, .int .i64 a1_0] (by rfl) rfl rfl (by (try simp only [List.map_toArray, List.map_cons, List.map_nil]); first | done | rfl | (simp only [List.length_drop, List.length_take]; rfl)) ?_
 with_reducible refine (cmp_Compare_int.calls a0_0 a1_0 t117 _ A3.out).mono ?_
 rintro e w' ⟨rfl, ⟨nd, rfl⟩⟩
 refine ⟨_, rfl, ?_⟩
 refine hK.out _ _ ⟨(bCe BK115.out 0).trans rfl, (bCe BK115.out 1).trans rfl, (bCe BK115.out 2).trans rfl, (bCe BK115.out 3).trans rfl, (bCe BK116.out 0).trans rfl, (bCe BK116.out 1).trans rfl, (bCe BK116.out 2).trans rfl, (bCe BK116.out 3).trans rfl⟩ (fun hHeld => ?_)
 clear hK K
 refine norm_ (a' := ?_) ?_ ?_
 rotate_left
 ·show Act.put _ (some 9) _ = _
  simp only [Act.put, qA, qB, qC, i64_w, i32_w]
  rfl
 refine one_ (i := 9) (N := some 14) #[true, true, true, true, true, true, true, true, true, true, false, false, false] rfl rfl (one_of HT_.out (by kernel_rfl)) (by decide) (fun K hK => ?_)
 refine goes_ Try.func41 (by kernel_rfl) rfl #[.slice A0_1 l0_1.length c0_1, .slice A1_1 l1_1.length c1_1] (by rfl) rfl rfl (by (try simp only [List.map_toArray, List.map_cons, List.map_nil]); first | done | rfl | (simp only [List.length_drop, List.length_take]; rfl)) ?_
 with_reducible refine (slices_Compare_string_string.calls k _ _ l0_1 _ _ l1_1 t118 _ ?side1 ?side2 ?side3 ?side4 A4.out).mono ?_
 (case side1 => repeat (first | exact (Kd.C_below HR0_1.out (by repeat (first | (with_reducible first | exact HB.out | apply beA | apply bpN | apply bd1 | refine beS ?_ GE115.out | refine beS ?_ GE116.out) | exact HB.out))) | (with_reducible refine Kd.C_alloc ?_ _) | (with_reducible refine Kd.C_drewN ?_ _) | (with_reducible refine Kd.C_drew ?_)))
 (case side2 => exact HC0_1.out)
 (case side3 => repeat (first | exact (Kd.C_below HR1_1.out (by repeat (first | (with_reducible first | exact HB.out | apply beA | apply bpN | apply bd1 | refine beS ?_ GE115.out | refine beS ?_ GE116.out) | exact HB.out))) | (with_reducible refine Kd.C_alloc ?_ _) | (with_reducible refine Kd.C_drewN ?_ _) | (with_reducible refine Kd.C_drew ?_)))
 (case side4 => exact HC1_1.out)
 rintro e w' ⟨rfl, ⟨nd, rfl⟩⟩
 refine ⟨_, rfl, ?_⟩
 refine hK.out _ _ ⟨(bCe BK115.out 0).trans rfl, (bCe BK115.out 1).trans rfl, (bCe BK115.out 2).trans rfl, (bCe BK115.out 3).trans rfl, (bCe BK116.out 0).trans rfl, (bCe BK116.out 1).trans rfl, (bCe BK116.out 2).trans rfl, (bCe BK116.out 3).trans rfl⟩ (fun hHeld => ?_)
 clear hK K
 refine norm_ (a' := ?_) ?_ ?_
 rotate_left
 ·show Act.put _ (some 14) _ = _
  simp only [Act.put, qA, qB, qC, i64_w, i32_w]
  rfl
 refine one_ (i := 10) (N := some 15) #[true, true, true, true, true, true, true, true, true, true, true, false, false] rfl rfl (one_of HT_.out (by kernel_rfl)) (by decide) (fun K hK => ?_)
 refine Kd.R_lit_step (Kd.int .i64) _ 3 ?hg (N := 15) ?hd (xs := ([t117, t118] : List Int)) (inner := [.int .i64 t117, .int .i64 t118]) (ok := fun _ => True) (okp := fun _ => True) ?hr ?hp (fun _ hk => hk) trivial (Below.refl _ _) (Nat.le_refl _) (by simp) ?_; (case hd => rfl); (case hg => rfl); (case hr => first | (go_simp; done) | (go_simp; rfl)); (case hp => exact (Reps.one (show Kd.M (Kd.int .i64) _ _ _ t117 [.int .i64 t117] from rfl) (Reps.one (show Kd.M (Kd.int .i64) _ _ _ t118 [.int .i64 t118] from rfl) (Reps.none _ _))))
 intro v120 w9 ho10 hb hg_ hnew_
 clear hg_ hnew_
 (first | rw [← Ny119.out] at ho10 | (simp only [Int.reduceToNat] at ho10; rw [← Ny119.out] at ho10))
 have n0_ := Z0.mk (Kd.R_lower ho10 (below_size (by repeat (first | (with_reducible first | exact HB.out | apply beA | apply bpN | apply bd1 | refine beS ?_ GE115.out | refine beS ?_ GE116.out) | exact HB.out))))
 have n1_ := Z0.mk (blk_below (g := gb115) (o := .cells #[.int .i64 a0_0, .slice A0_1 l0_1.length c0_1, .int .i64 a0_2, .slice A0_3 l0_3.length c0_3] 39 (0, 0)) (by (with_reducible repeat (first | refine bDN ?_ _ | refine bDr ?_ | refine bAl ?_ _)); exact BK115.out) hb)
 have n2_ := Z0.mk (blk_below (g := gb116) (o := .cells #[.int .i64 a1_0, .slice A1_1 l1_1.length c1_1, .int .i64 a1_2, .slice A1_3 l1_3.length c1_3] 39 (0, 0)) (by (with_reducible repeat (first | refine bDN ?_ _ | refine bDr ?_ | refine bAl ?_ _)); exact BK116.out) hb)
 have n3_ := Z0.mk (below_step (by repeat (first | (with_reducible first | exact HB.out | apply beA | apply bpN | apply bd1 | refine beS ?_ GE115.out | refine beS ?_ GE116.out) | exact HB.out)) hb)
 clear BK115
 clear BK116
 clear HB
 have HO121 := n0_
 have BK115 := n1_
 have BK116 := n2_
 have HB := n3_
 clear n0_ n1_ n2_ n3_
 clear hb ho10
 obtain ⟨Ao11, co11, eo11⟩ := Kd.R_slice HO121.out
 (first | subst eo11 | (injection eo11 with f1_ f2_ f3_; have f4_ := f1_.symm; have f5_ := f3_.symm; clear f1_ f2_ f3_; subst f4_; subst f5_))
 refine hK.out _ _ ⟨(bCe BK115.out 0).trans rfl, (bCe BK115.out 1).trans rfl, (bCe BK115.out 2).trans rfl, (bCe BK115.out 3).trans rfl, (bCe BK116.out 0).trans rfl, (bCe BK116.out 1).trans rfl, (bCe BK116.out 2).trans rfl, (bCe BK116.out 3).trans rfl⟩ (fun hHeld => ?_)
 clear hK K
 refine norm_ (a' := ?_) ?_ ?_
 rotate_left
 ·show Act.put _ (some 15) _ = _
  simp only [Act.put, qA, qB, qC, i64_w, i32_w]
  rfl
 refine one_ (i := 11) (N := some 16) #[true, true, true, true, true, true, true, true, true, true, true, true, false] rfl rfl (one_of HT_.out (by kernel_rfl)) (by decide) (fun K hK => ?_)
 refine goes_ Try.func39 (by kernel_rfl) rfl #[.slice Ao11 y119.length co11] (by rfl) rfl rfl (by (try simp only [List.map_toArray, List.map_cons, List.map_nil]); first | done | rfl | (simp only [List.length_drop, List.length_take]; rfl)) ?_
 with_reducible refine (cmp_Or_int.calls k _ _ y119 t122 _ ?side1 ?side2 A5.out).mono ?_
 (case side1 => repeat (first | exact (Kd.R_reads' HO121.out).2.2 | (with_reducible refine Kd.C_alloc ?_ _) | (with_reducible refine Kd.C_drewN ?_ _) | (with_reducible refine Kd.C_drew ?_)))
 (case side2 => exact (Kd.R_reads' HO121.out).2.1)
 rintro e w' ⟨rfl, ⟨nd, rfl⟩⟩
 refine ⟨_, rfl, ?_⟩
 refine hK.out _ _ ⟨(bCe BK115.out 0).trans rfl, (bCe BK115.out 1).trans rfl, (bCe BK115.out 2).trans rfl, (bCe BK115.out 3).trans rfl, (bCe BK116.out 0).trans rfl, (bCe BK116.out 1).trans rfl, (bCe BK116.out 2).trans rfl, (bCe BK116.out 3).trans rfl⟩ (fun hHeld => ?_)
 clear hK K
 refine norm_ (a' := ?_) ?_ ?_
 rotate_left
 ·show Act.put _ (some 16) _ = _
  simp only [Act.put, qA, qB, qC, i64_w, i32_w]
  rfl
 refine pure_ (i := 12) (N := some 4) (v := ?_) (a' := ?_) #[true, true, true, true, true, true, true, true, true, true, true, true, true] rfl rfl (any_of HT_.out (by kernel_rfl)) (fun _ _ _ h => h) (Or.inl ⟨by rfl, ?_⟩) ?_ ?_
 rotate_left
 ·intro w'
  go_simp
  with_reducible rfl
 rotate_left
 ·simp only [Act.put, qA, qB, qC, i64_w, i32_w]
  rfl
 refine done_ (done_of HT_.out (by kernel_rfl)) ?_
 try go_wp2
 go_ret
 exact ⟨by first | rfl | (simp [errW_none, errW_some] <;> rfl) | (simp [*, errW_none, errW_some] <;> rfl), by repeat (first | (with_reducible first | exact HB.out | apply beA | apply bpN | apply bd1 | refine beS ?_ GE115.out | refine beS ?_ GE116.out) | exact HB.out)⟩
end Go.Proofs.Ytdeeffahfkndkaa.P
namespace Go.Proofs.Ytdeeffahfkndkaa.P
open Go.RowKit Go.Proofs.YtdeeffahfkndkaaW.PrintWords Go.Proofs.YtdeeffahfkndkaaW.PrintLast Go.Proofs.YtdeeffahfkndkaaW.PrintMore
attribute [local go_sem] max2_int min2_int max_two min_two max_three min_three max_four min_four
set_option linter.unusedVariables false
set_option linter.unusedSimpArgs false
mutual
def rows_Join.j0 : Nat → Bool → Int → List ByteArray → Int → List (S71) → Int → List ByteArray → Int → List (S71) → Option (Int × List ByteArray × Int × (List (S71)) × Int)
 | 0, _, _, _, _, _, _, _, _, _ => none
 | k + 1, x11, x135000, x135001, x135002, x135003, x136000, x136001, x136002, x136003 => if x11 = true then (some (0, ([] : List ByteArray), 0, ([] : List (S71)), 131)) else (if (wrap64 (x135002 + x136002)) > 1048576 then (some (0, ([] : List ByteArray), 0, ([] : List (S71)), 121)) else ((slices_Clone_string_string.f x135001).bind fun t138 => (rows_Join.l0 k x135003 (x135003.length : Int) 0 x136000 x136001 x136002 x136003 x135000 t138 (wrap64 (x135002 + x136002)) ([] : List (S71)))))
def rows_Join.l0 : Nat → List (S71) → Int → Int → Int → List ByteArray → Int → List (S71) → Int → List ByteArray → Int → List (S71) → Option (Int × List ByteArray × Int × (List (S71)) × Int)
 | 0, _, _, _, _, _, _, _, _, _, _, _ => none
 | k + 1, x46, x47, x48, x136000, x136001, x136002, x136003, x142000, x142001, x142002, x142003 => if x48 < x47 then (if 0 ≤ x48 then (if x48 < (x46.length : Int) then (if x48 < (x136003.length : Int) then ((agg_Join.f k ((rd_T71 x46 x48).f0) ((rd_T71 x46 x48).f1) ((rd_T71 x46 x48).f2) ((rd_T71 x136003 x48).f0) ((rd_T71 x136003 x48).f1) ((rd_T71 x136003 x48).f2)).bind fun bt145 => (if bt145.2.2.2 = 0 then (if x142003.length < 5864062014805 then (rows_Join.l0 k x46 x47 (wrap64 (x48 + 1)) x136000 x136001 x136002 x136003 x142000 x142001 x142002 (x142003 ++ [(⟨bt145.1, bt145.2.1, bt145.2.2.1⟩ : S71)])) else (none)) else (some (0, ([] : List ByteArray), 0, ([] : List (S71)), 121)))) else (none)) else (none)) else (none)) else (some (x142000, x142001, x142002, x142003, 0))
end
def rows_Join.f (k : Nat) (a0_0 : Int) (l0_1 : List ByteArray) (a0_2 : Int) (l0_3 : List (S71)) (a1_0 : Int) (l1_1 : List ByteArray) (a1_2 : Int) (l1_3 : List (S71)) : Option (Int × List ByteArray × Int × (List (S71)) × Int) := (rows_Compare.f k a0_0 l0_1 a0_2 l0_3 a1_0 l1_1 a1_2 l1_3).bind fun t137 => (if t137 = 0 then (rows_Join.j0 k ((l0_3.length : Int) != (l1_3.length : Int)) a0_0 l0_1 a0_2 l0_3 a1_0 l1_1 a1_2 l1_3) else (rows_Join.j0 k true a0_0 l0_1 a0_2 l0_3 a1_0 l1_1 a1_2 l1_3))
def rows_Join.T5 : Bool × List (List Nat × List Nat) := (true, [([], []), ([0], [0]), ([], []), ([2], [2]), ([3], [3]), ([], []), ([5], [5]), ([], []), ([7], [7]), ([6, 8], [6, 8]), ([1, 4, 9], [1, 4, 9]), ([], []), ([11, 10, 4, 0, 1, 2, 3, 4, 5, 6, 7, 8, 9, 10, 11], [10, 11])])
def rows_Join.B5 : List Nat := [0, 1, 0, 4, 12, 0, 32, 0, 128, 480, 1023, 0, 4095]
theorem rows_Join.tab5 : rtab .any (opsOf Try.f20 5) = rows_Join.T5 := by kernel_rfl
theorem rows_Join.bits5 : waitsOk rows_Join.T5.2 rows_Join.B5 = true := by kernel_rfl
def rows_Join.T9 : Bool × List (List Nat × List Nat) := (true, [([], []), ([], []), ([1], [1]), ([], []), ([2, 3], [2, 3]), ([4], [4]), ([0, 5], [0, 5]), ([6], [6]), ([7], [7]), ([7], [7]), ([], []), ([10, 8, 6, 0, 1, 2, 3, 4, 5, 6, 7, 8, 10], [8, 10]), ([9, 11, 0, 1, 2, 3, 4, 5, 6, 7, 8, 9, 10, 11], [9])])
def rows_Join.B9 : List Nat := [0, 0, 2, 0, 14, 30, 63, 127, 255, 255, 0, 1535, 4095]
theorem rows_Join.tab9 : rtab .any (opsOf Try.f20 9) = rows_Join.T9 := by kernel_rfl
theorem rows_Join.bits9 : waitsOk rows_Join.T9.2 rows_Join.B9 = true := by kernel_rfl
set_option maxHeartbeats 8000000 in
set_option maxRecDepth 100000 in
theorem rows_Join.calls (k : Nat) (a0_0 : Int) (A0_1 : Option Addr) (c0_1 : Nat) (l0_1 : List ByteArray) (a0_2 : Int) (A0_3 : Option Addr) (c0_3 : Nat) (l0_3 : List (S71)) (a1_0 : Int) (A1_1 : Option Addr) (c1_1 : Nat) (l1_1 : List ByteArray) (a1_2 : Int) (A1_3 : Option Addr) (c1_3 : Nat) (l1_3 : List (S71)) (r1 : Int) (r2 : List ByteArray) (r3 : Int) (r4 : List (S71)) (r5 : Int) (w : World) (hr0_1 : Kd.C Kd.string w A0_1 l0_1.length l0_1) (hc0_1 : l0_1.length ≤ c0_1) (hr0_3 : Kd.C k71 w A0_3 l0_3.length l0_3) (hc0_3 : l0_3.length ≤ c0_3) (hr1_1 : Kd.C Kd.string w A1_1 l1_1.length l1_1) (hc1_1 : l1_1.length ≤ c1_1) (hr1_3 : Kd.C k71 w A1_3 l1_3.length l1_3) (hc1_3 : l1_3.length ≤ c1_3) (h : rows_Join.f k a0_0 l0_1 a0_2 l0_3 a1_0 l1_1 a1_2 l1_3 = some (r1, r2, r3, r4, r5)) :
  Calls Try.prog 20 #[.agg #[.int .i64 a0_0, .slice A0_1 l0_1.length c0_1, .int .i64 a0_2, .slice A0_3 l0_3.length c0_3], .agg #[.int .i64 a1_0, .slice A1_1 l1_1.length c1_1, .int .i64 a1_2, .slice A1_3 l1_3.length c1_3]] w fun e w' => ∃ v1_ v3_ : Value, e = .returned (.tuple #[.agg #[.int .i64 r1, v1_, .int .i64 r3, v3_], .int .i64 r5]) ∧ Kd.R Kd.string 9 w' w.heap.size (fun _ => True) v1_ r2 ∧ Kd.R k71 71 w' w.heap.size (fun _ => True) v3_ r4 ∧ Below w.heap.size w w' := by
 have hu39 := Try.underlying39
 have hu71 := Try.underlying71
 have HR0_1 := Z0.mk hr0_1
 have HC0_1 := Z0.mk hc0_1
 clear hr0_1 hc0_1
 have HR0_3 := Z0.mk hr0_3
 have HC0_3 := Z0.mk hc0_3
 clear hr0_3 hc0_3
 have HR1_1 := Z0.mk hr1_1
 have HC1_1 := Z0.mk hc1_1
 clear hr1_1 hc1_1
 have HR1_3 := Z0.mk hr1_3
 have HC1_3 := Z0.mk hc1_3
 clear hr1_3 hc1_3
 have HB := Z0.mk (Below.refl w.heap.size w)
 have H : ((rows_Compare.f k a0_0 l0_1 a0_2 l0_3 a1_0 l1_1 a1_2 l1_3).bind fun t137 => (if t137 = 0 then (rows_Join.j0 k ((l0_3.length : Int) != (l1_3.length : Int)) a0_0 l0_1 a0_2 l0_3 a1_0 l1_1 a1_2 l1_3) else (rows_Join.j0 k true a0_0 l0_1 a0_2 l0_3 a1_0 l1_1 a1_2 l1_3))) = some (r1, r2, r3, r4, r5) := h
 clear h
 have HC3 := Z0.mk H
 clear H
 go_enter Try.func20, Try.ntmps20
 go_upto_region 1 with (first | ((with_reducible refine gate_dst (N := 2) rfl ?_); (try (refine gate_guard (by rfl) ?_; dsimp only)); refine box_event ?hg (N := 2) ?hd (cs := #[.int .i64 a0_0, .slice A0_1 l0_1.length c0_1, .int .i64 a0_2, .slice A0_3 l0_3.length c0_3]) (t := 39) ?hr ?_; (case hd => rfl); (case hg => rfl); (case hr => first | (go_simp; done) | (go_simp; rfl)); intro gb134 hg w4 hbox hb; have n0_ := Z0.mk (below_step (by repeat (first | (with_reducible first | exact HB.out | apply beA | apply bpN | apply bd1) | exact HB.out)) hb); have n1_ := Z0.mk (hbox); have n2_ := Z0.mk ((by rw [hg]; exact (below_size (by repeat (first | (with_reducible first | exact HB.out | apply beA | apply bpN | apply bd1) | exact HB.out))) : w.heap.size ≤ gb134)); have n3_ := Z0.mk ((by rw [hg]; exact (below_size (by repeat (first | (with_reducible first | exact HB.out | apply beA | apply bpN | apply bd1) | exact HB.out))) : w.heap.size ≤ gb134)); clear HB; have HB := n0_; have BK134 := n1_; have GW134 := n2_; have GE134 := n3_; clear n0_ n1_ n2_ n3_; clear hb hbox hg) | ((with_reducible refine gate_dst (N := 3) rfl ?_); (try (refine gate_guard (by rfl) ?_; dsimp only)); refine box_event ?hg (N := 3) ?hd (cs := #[.int .i64 a1_0, .slice A1_1 l1_1.length c1_1, .int .i64 a1_2, .slice A1_3 l1_3.length c1_3]) (t := 39) ?hr ?_; (case hd => rfl); (case hg => rfl); (case hr => first | (go_simp; done) | (go_simp; rfl)); intro gb135 hg w5 hbox hb; have n0_ := Z0.mk (blk_below (g := gb134) (o := .cells #[.int .i64 a0_0, .slice A0_1 l0_1.length c0_1, .int .i64 a0_2, .slice A0_3 l0_3.length c0_3] 39 (0, 0)) (by (with_reducible repeat (first | refine bDN ?_ _ | refine bDr ?_ | refine bAl ?_ _)); exact BK134.out) hb); have n1_ := Z0.mk (below_step (by repeat (first | (with_reducible first | exact HB.out | apply beA | apply bpN | apply bd1 | refine beS ?_ GE134.out) | exact HB.out)) hb); have n2_ := Z0.mk (hbox); have n3_ := Z0.mk ((by rw [hg]; exact (below_size (by repeat (first | (with_reducible first | exact HB.out | apply beA | apply bpN | apply bd1 | refine beS ?_ GE134.out) | exact HB.out))) : w.heap.size ≤ gb135)); have n4_ := Z0.mk ((by rw [hg]; exact (below_size (by repeat (first | (with_reducible first | exact HB.out | apply beA | apply bpN | apply bd1 | refine beS ?_ GE134.out) | exact HB.out))) : w.heap.size ≤ gb135)); have n5_ := Z0.mk ((by rw [hg]; exact Nat.ne_of_lt (blk_lt (g := gb134) (o := .cells #[.int .i64 a0_0, .slice A0_1 l0_1.length c0_1, .int .i64 a0_2, .slice A0_3 l0_3.length c0_3] 39 (0, 0)) (by (with_reducible repeat (first | refine bDN ?_ _ | refine bDr ?_ | refine bAl ?_ _)); exact BK134.out)) : gb134 ≠ gb135)); have n6_ := Z0.mk ((by rw [hg]; exact Nat.ne_of_gt (blk_lt (g := gb134) (o := .cells #[.int .i64 a0_0, .slice A0_1 l0_1.length c0_1, .int .i64 a0_2, .slice A0_3 l0_3.length c0_3] 39 (0, 0)) (by (with_reducible repeat (first | refine bDN ?_ _ | refine bDr ?_ | refine bAl ?_ _)); exact BK134.out)) : gb135 ≠ gb134)); clear BK134; clear HB; have BK134 := n0_; have HB := n1_; have BK135 := n2_; have GW135 := n3_; have GE135 := n4_; have NB134_135 := n5_; have NB135_134 := n6_; clear n0_ n1_ n2_ n3_ n4_ n5_ n6_; clear hb hbox hg) | ((with_reducible refine gate_dst (N := 4) rfl ?_); (try (refine gate_guard (by rfl) ?_; dsimp only)); refine box_event ?hg (N := 4) ?hd (cs := #[.int .i64 0, .slice none 0 0, .int .i64 0, .slice none 0 0]) (t := 39) ?hr ?_; (case hd => rfl); (case hg => rfl); (case hr => first | (go_simp; done) | (go_simp; rfl)); intro gb136 hg w6 hbox hb; have n0_ := Z0.mk (blk_below (g := gb134) (o := .cells #[.int .i64 a0_0, .slice A0_1 l0_1.length c0_1, .int .i64 a0_2, .slice A0_3 l0_3.length c0_3] 39 (0, 0)) (by (with_reducible repeat (first | refine bDN ?_ _ | refine bDr ?_ | refine bAl ?_ _)); exact BK134.out) hb); have n1_ := Z0.mk (blk_below (g := gb135) (o := .cells #[.int .i64 a1_0, .slice A1_1 l1_1.length c1_1, .int .i64 a1_2, .slice A1_3 l1_3.length c1_3] 39 (0, 0)) (by (with_reducible repeat (first | refine bDN ?_ _ | refine bDr ?_ | refine bAl ?_ _)); exact BK135.out) hb); have n2_ := Z0.mk (below_step (by repeat (first | (with_reducible first | exact HB.out | apply beA | apply bpN | apply bd1 | refine beS ?_ GE134.out | refine beS ?_ GE135.out) | exact HB.out)) hb); have n3_ := Z0.mk (hbox); have n4_ := Z0.mk ((by rw [hg]; exact (below_size (by repeat (first | (with_reducible first | exact HB.out | apply beA | apply bpN | apply bd1 | refine beS ?_ GE134.out | refine beS ?_ GE135.out) | exact HB.out))) : w.heap.size ≤ gb136)); have n5_ := Z0.mk ((by rw [hg]; exact (below_size (by repeat (first | (with_reducible first | exact HB.out | apply beA | apply bpN | apply bd1 | refine beS ?_ GE134.out | refine beS ?_ GE135.out) | exact HB.out))) : w.heap.size ≤ gb136)); have n6_ := Z0.mk ((by rw [hg]; exact Nat.ne_of_lt (blk_lt (g := gb134) (o := .cells #[.int .i64 a0_0, .slice A0_1 l0_1.length c0_1, .int .i64 a0_2, .slice A0_3 l0_3.length c0_3] 39 (0, 0)) (by (with_reducible repeat (first | refine bDN ?_ _ | refine bDr ?_ | refine bAl ?_ _)); exact BK134.out)) : gb134 ≠ gb136)); have n7_ := Z0.mk ((by rw [hg]; exact Nat.ne_of_gt (blk_lt (g := gb134) (o := .cells #[.int .i64 a0_0, .slice A0_1 l0_1.length c0_1, .int .i64 a0_2, .slice A0_3 l0_3.length c0_3] 39 (0, 0)) (by (with_reducible repeat (first | refine bDN ?_ _ | refine bDr ?_ | refine bAl ?_ _)); exact BK134.out)) : gb136 ≠ gb134)); have n8_ := Z0.mk ((by rw [hg]; exact Nat.ne_of_lt (blk_lt (g := gb135) (o := .cells #[.int .i64 a1_0, .slice A1_1 l1_1.length c1_1, .int .i64 a1_2, .slice A1_3 l1_3.length c1_3] 39 (0, 0)) (by (with_reducible repeat (first | refine bDN ?_ _ | refine bDr ?_ | refine bAl ?_ _)); exact BK135.out)) : gb135 ≠ gb136)); have n9_ := Z0.mk ((by rw [hg]; exact Nat.ne_of_gt (blk_lt (g := gb135) (o := .cells #[.int .i64 a1_0, .slice A1_1 l1_1.length c1_1, .int .i64 a1_2, .slice A1_3 l1_3.length c1_3] 39 (0, 0)) (by (with_reducible repeat (first | refine bDN ?_ _ | refine bDr ?_ | refine bAl ?_ _)); exact BK135.out)) : gb136 ≠ gb135)); clear BK134; clear BK135; clear HB; have BK134 := n0_; have BK135 := n1_; have HB := n2_; have BK136 := n3_; have GW136 := n4_; have GE136 := n5_; have NB134_136 := n6_; have NB136_134 := n7_; have NB135_136 := n8_; have NB136_135 := n9_; clear n0_ n1_ n2_ n3_ n4_ n5_ n6_ n7_ n8_ n9_; clear hb hbox hg))
 (try simp only [Act.put, qA, qB, qC])
 go_cut [11] (fun v11 wc => ∃ (kq : Nat) (x11_2 : Bool), v11 = .bool x11_2 ∧ Z0 (rows_Join.j0 kq x11_2 a0_0 l0_1 a0_2 l0_3 a1_0 l1_1 a1_2 l1_3 = some (r1, r2, r3, r4, r5)) ∧ Z0 (kq ≤ k) ∧ Z0 (wc.heap[gb134]? = some (.cells #[.int .i64 a0_0, (.slice A0_1 l0_1.length c0_1), .int .i64 a0_2, (.slice A0_3 l0_3.length c0_3)] 39 (0, 0))) ∧ Z0 (wc.heap[gb135]? = some (.cells #[.int .i64 a1_0, (.slice A1_1 l1_1.length c1_1), .int .i64 a1_2, (.slice A1_3 l1_3.length c1_3)] 39 (0, 0))) ∧ Z0 (wc.heap[gb136]? = some (.cells #[.int .i64 0, (.slice none 0 0), .int .i64 0, (.slice none 0 0)] 39 (0, 0))) ∧ Z0 (Below w.heap.size w wc))
 case first =>
  have H := HC3.out
  clear HC3
  replace H := Option.bind_eq_some_iff.mp H
  obtain ⟨t137, A70, H⟩ := H
  replace H : (if t137 = 0 then (rows_Join.j0 k ((l0_3.length : Int) != (l1_3.length : Int)) a0_0 l0_1 a0_2 l0_3 a1_0 l1_1 a1_2 l1_3) else (rows_Join.j0 k true a0_0 l0_1 a0_2 l0_3 a1_0 l1_1 a1_2 l1_3)) = some (r1, r2, r3, r4, r5) := H
  have A7 := Z0.mk A70
  clear A70
  by_cases c8 : t137 = 0
  ·rw [if_pos c8] at H
   have c8b0 : (t137 == 0) = true := beq_iff_eq.mpr c8
   have c8b1 : (t137 != 0) = false := bne_eq_false_iff_eq.mpr c8
   clear c8
   (first | rw [c8b0] | (simp only [i64_w, i32_w]; rw [c8b0]) | skip)
   have H' := Z0.mk H
   clear H
   have hnb9 := NB134_135.out
   have hnc9 := NB135_134.out
   have hnb10 := NB134_136.out
   have hnc10 := NB136_134.out
   have hcz11_0 : w6.cell? ⟨gb134, 0, none⟩ = some (.int .i64 a0_0) := (bCe BK134.out 0).trans rfl
   have hcz11_1 : w6.cell? ⟨gb134, 1, none⟩ = some (.slice A0_1 l0_1.length c0_1) := (bCe BK134.out 1).trans rfl
   have hcz11_2 : w6.cell? ⟨gb134, 2, none⟩ = some (.int .i64 a0_2) := (bCe BK134.out 2).trans rfl
   have hcz11_3 : w6.cell? ⟨gb134, 3, none⟩ = some (.slice A0_3 l0_3.length c0_3) := (bCe BK134.out 3).trans rfl
   have hfz11_0 := bFz BK134.out 0
   have hfz11_1 := bFz BK134.out 1
   have hfz11_2 := bFz BK134.out 2
   have hfz11_3 := bFz BK134.out 3
   have hnb12 := NB135_136.out
   have hnc12 := NB136_135.out
   have hcz13_0 : w6.cell? ⟨gb135, 0, none⟩ = some (.int .i64 a1_0) := (bCe BK135.out 0).trans rfl
   have hcz13_1 : w6.cell? ⟨gb135, 1, none⟩ = some (.slice A1_1 l1_1.length c1_1) := (bCe BK135.out 1).trans rfl
   have hcz13_2 : w6.cell? ⟨gb135, 2, none⟩ = some (.int .i64 a1_2) := (bCe BK135.out 2).trans rfl
   have hcz13_3 : w6.cell? ⟨gb135, 3, none⟩ = some (.slice A1_3 l1_3.length c1_3) := (bCe BK135.out 3).trans rfl
   have hfz13_0 := bFz BK135.out 0
   have hfz13_1 := bFz BK135.out 1
   have hfz13_2 := bFz BK135.out 2
   have hfz13_3 := bFz BK135.out 3
   go_wp2_with (first | ((with_reducible refine gate_callee (f := 19) rfl ?_); refine goesL_ (some 14) rfl rfl Try.func19 (by kernel_rfl) rfl #[.agg #[.int .i64 a0_0, .slice A0_1 l0_1.length c0_1, .int .i64 a0_2, .slice A0_3 l0_3.length c0_3], .agg #[.int .i64 a1_0, .slice A1_1 l1_1.length c1_1, .int .i64 a1_2, .slice A1_3 l1_3.length c1_3]] rfl (by (try simp only [List.map_toArray, List.map_cons, List.map_nil]); first | done | rfl | (simp only [List.length_drop, List.length_take]; rfl)) ?_; (with_reducible refine (rows_Compare.calls k a0_0 _ _ l0_1 a0_2 _ _ l0_3 a1_0 _ _ l1_1 a1_2 _ _ l1_3 t137 _ ?side1 ?side2 ?side3 ?side4 ?side5 ?side6 ?side7 ?side8 A7.out).mono ?_); (case side1 => repeat (first | exact (Kd.C_below HR0_1.out HB.out) | (with_reducible refine Kd.C_alloc ?_ _) | (with_reducible refine Kd.C_drewN ?_ _) | (with_reducible refine Kd.C_drew ?_))); (case side2 => exact HC0_1.out); (case side3 => repeat (first | exact (Kd.C_below HR0_3.out HB.out) | (with_reducible refine Kd.C_alloc ?_ _) | (with_reducible refine Kd.C_drewN ?_ _) | (with_reducible refine Kd.C_drew ?_))); (case side4 => exact HC0_3.out); (case side5 => repeat (first | exact (Kd.C_below HR1_1.out HB.out) | (with_reducible refine Kd.C_alloc ?_ _) | (with_reducible refine Kd.C_drewN ?_ _) | (with_reducible refine Kd.C_drew ?_))); (case side6 => exact HC1_1.out); (case side7 => repeat (first | exact (Kd.C_below HR1_3.out HB.out) | (with_reducible refine Kd.C_alloc ?_ _) | (with_reducible refine Kd.C_drewN ?_ _) | (with_reducible refine Kd.C_drew ?_))); (case side8 => exact HC1_3.out); rintro e w14 ⟨rfl, hb⟩; refine ⟨_, rfl, ?_⟩; have n0_ := Z0.mk (blk_below (g := gb134) (o := .cells #[.int .i64 a0_0, .slice A0_1 l0_1.length c0_1, .int .i64 a0_2, .slice A0_3 l0_3.length c0_3] 39 (0, 0)) (by (with_reducible repeat (first | refine bDN ?_ _ | refine bDr ?_ | refine bAl ?_ _)); exact BK134.out) hb); have n1_ := Z0.mk (blk_below (g := gb135) (o := .cells #[.int .i64 a1_0, .slice A1_1 l1_1.length c1_1, .int .i64 a1_2, .slice A1_3 l1_3.length c1_3] 39 (0, 0)) (by (with_reducible repeat (first | refine bDN ?_ _ | refine bDr ?_ | refine bAl ?_ _)); exact BK135.out) hb); have n2_ := Z0.mk (blk_below (g := gb136) (o := .cells #[.int .i64 0, .slice none 0 0, .int .i64 0, .slice none 0 0] 39 (0, 0)) (by (with_reducible repeat (first | refine bDN ?_ _ | refine bDr ?_ | refine bAl ?_ _)); exact BK136.out) hb); have n3_ := Z0.mk (below_step (by repeat (first | (with_reducible first | exact HB.out | apply beA | apply bpN | apply bd1 | refine beS ?_ GE134.out | refine beS ?_ GE135.out | refine beS ?_ GE136.out) | exact HB.out)) hb); clear BK134; clear BK135; clear BK136; clear HB; have BK134 := n0_; have BK135 := n1_; have BK136 := n2_; have HB := n3_; clear n0_ n1_ n2_ n3_; (try clear hb); (try clear hb2); (try clear hk); (try clear hi); have hcz15_0 : w14.cell? ⟨gb134, 0, none⟩ = some (.int .i64 a0_0) := (bCe BK134.out 0).trans rfl; have hcz15_1 : w14.cell? ⟨gb134, 1, none⟩ = some (.slice A0_1 l0_1.length c0_1) := (bCe BK134.out 1).trans rfl; have hcz15_2 : w14.cell? ⟨gb134, 2, none⟩ = some (.int .i64 a0_2) := (bCe BK134.out 2).trans rfl; have hcz15_3 : w14.cell? ⟨gb134, 3, none⟩ = some (.slice A0_3 l0_3.length c0_3) := (bCe BK134.out 3).trans rfl; have hfz15_0 := bFz BK134.out 0; have hfz15_1 := bFz BK134.out 1; have hfz15_2 := bFz BK134.out 2; have hfz15_3 := bFz BK134.out 3; have hcz16_0 : w14.cell? ⟨gb135, 0, none⟩ = some (.int .i64 a1_0) := (bCe BK135.out 0).trans rfl; have hcz16_1 : w14.cell? ⟨gb135, 1, none⟩ = some (.slice A1_1 l1_1.length c1_1) := (bCe BK135.out 1).trans rfl; have hcz16_2 : w14.cell? ⟨gb135, 2, none⟩ = some (.int .i64 a1_2) := (bCe BK135.out 2).trans rfl; have hcz16_3 : w14.cell? ⟨gb135, 3, none⟩ = some (.slice A1_3 l1_3.length c1_3) := (bCe BK135.out 3).trans rfl; have hfz16_0 := bFz BK135.out 0; have hfz16_1 := bFz BK135.out 1; have hfz16_2 := bFz BK135.out 2; have hfz16_3 := bFz BK135.out 3))
   go_meet
   case rel => exact ⟨_, (((l0_3.length : Int) != (l1_3.length : Int))), (by first | rfl | (simp; done) | (simp [*]; done)), H', ⟨by first | omega | exact Nat.le_refl _⟩, ⟨by (with_reducible repeat (first | refine bDN ?_ _ | refine bDr ?_ | refine bAl ?_ _)); exact BK134.out⟩, ⟨by (with_reducible repeat (first | refine bDN ?_ _ | refine bDr ?_ | refine bAl ?_ _)); exact BK135.out⟩, ⟨by (with_reducible repeat (first | refine bDN ?_ _ | refine bDr ?_ | refine bAl ?_ _)); exact BK136.out⟩, ⟨by repeat (first | (with_reducible first | exact HB.out | apply beA | apply bpN | apply bd1 | refine beS ?_ GE134.out | refine beS ?_ GE135.out | refine beS ?_ GE136.out) | exact HB.out)⟩⟩
  ·rw [if_neg c8] at H
   have c8b0 : (t137 == 0) = false := beq_eq_false_iff_ne.mpr c8
   have c8b1 : (t137 != 0) = true := bne_iff_ne.mpr c8
   (first | rw [c8b0] | (simp only [i64_w, i32_w]; rw [c8b0]) | skip)
   have H' := Z0.mk H
   clear H
   have hnb17 := NB134_135.out
   have hnc17 := NB135_134.out
   have hnb18 := NB134_136.out
   have hnc18 := NB136_134.out
   have hcz19_0 : w6.cell? ⟨gb134, 0, none⟩ = some (.int .i64 a0_0) := (bCe BK134.out 0).trans rfl
   have hcz19_1 : w6.cell? ⟨gb134, 1, none⟩ = some (.slice A0_1 l0_1.length c0_1) := (bCe BK134.out 1).trans rfl
   have hcz19_2 : w6.cell? ⟨gb134, 2, none⟩ = some (.int .i64 a0_2) := (bCe BK134.out 2).trans rfl
   have hcz19_3 : w6.cell? ⟨gb134, 3, none⟩ = some (.slice A0_3 l0_3.length c0_3) := (bCe BK134.out 3).trans rfl
   have hfz19_0 := bFz BK134.out 0
   have hfz19_1 := bFz BK134.out 1
   have hfz19_2 := bFz BK134.out 2
   have hfz19_3 := bFz BK134.out 3
   have hnb20 := NB135_136.out
   have hnc20 := NB136_135.out
   have hcz21_0 : w6.cell? ⟨gb135, 0, none⟩ = some (.int .i64 a1_0) := (bCe BK135.out 0).trans rfl
   have hcz21_1 : w6.cell? ⟨gb135, 1, none⟩ = some (.slice A1_1 l1_1.length c1_1) := (bCe BK135.out 1).trans rfl
   have hcz21_2 : w6.cell? ⟨gb135, 2, none⟩ = some (.int .i64 a1_2) := (bCe BK135.out 2).trans rfl
   have hcz21_3 : w6.cell? ⟨gb135, 3, none⟩ = some (.slice A1_3 l1_3.length c1_3) := (bCe BK135.out 3).trans rfl
   have hfz21_0 := bFz BK135.out 0
   have hfz21_1 := bFz BK135.out 1
   have hfz21_2 := bFz BK135.out 2
   have hfz21_3 := bFz BK135.out 3
   go_wp2_with (first | ((with_reducible refine gate_callee (f := 19) rfl ?_); refine goesL_ (some 14) rfl rfl Try.func19 (by kernel_rfl) rfl #[.agg #[.int .i64 a0_0, .slice A0_1 l0_1.length c0_1, .int .i64 a0_2, .slice A0_3 l0_3.length c0_3], .agg #[.int .i64 a1_0, .slice A1_1 l1_1.length c1_1, .int .i64 a1_2, .slice A1_3 l1_3.length c1_3]] rfl (by (try simp only [List.map_toArray, List.map_cons, List.map_nil]); first | done | rfl | (simp only [List.length_drop, List.length_take]; rfl)) ?_; (with_reducible refine (rows_Compare.calls k a0_0 _ _ l0_1 a0_2 _ _ l0_3 a1_0 _ _ l1_1 a1_2 _ _ l1_3 t137 _ ?side1 ?side2 ?side3 ?side4 ?side5 ?side6 ?side7 ?side8 A7.out).mono ?_); (case side1 => repeat (first | exact (Kd.C_below HR0_1.out HB.out) | (with_reducible refine Kd.C_alloc ?_ _) | (with_reducible refine Kd.C_drewN ?_ _) | (with_reducible refine Kd.C_drew ?_))); (case side2 => exact HC0_1.out); (case side3 => repeat (first | exact (Kd.C_below HR0_3.out HB.out) | (with_reducible refine Kd.C_alloc ?_ _) | (with_reducible refine Kd.C_drewN ?_ _) | (with_reducible refine Kd.C_drew ?_))); (case side4 => exact HC0_3.out); (case side5 => repeat (first | exact (Kd.C_below HR1_1.out HB.out) | (with_reducible refine Kd.C_alloc ?_ _) | (with_reducible refine Kd.C_drewN ?_ _) | (with_reducible refine Kd.C_drew ?_))); (case side6 => exact HC1_1.out); (case side7 => repeat (first | exact (Kd.C_below HR1_3.out HB.out) | (with_reducible refine Kd.C_alloc ?_ _) | (with_reducible refine Kd.C_drewN ?_ _) | (with_reducible refine Kd.C_drew ?_))); (case side8 => exact HC1_3.out); rintro e w22 ⟨rfl, hb⟩; refine ⟨_, rfl, ?_⟩; have n0_ := Z0.mk (blk_below (g := gb134) (o := .cells #[.int .i64 a0_0, .slice A0_1 l0_1.length c0_1, .int .i64 a0_2, .slice A0_3 l0_3.length c0_3] 39 (0, 0)) (by (with_reducible repeat (first | refine bDN ?_ _ | refine bDr ?_ | refine bAl ?_ _)); exact BK134.out) hb); have n1_ := Z0.mk (blk_below (g := gb135) (o := .cells #[.int .i64 a1_0, .slice A1_1 l1_1.length c1_1, .int .i64 a1_2, .slice A1_3 l1_3.length c1_3] 39 (0, 0)) (by (with_reducible repeat (first | refine bDN ?_ _ | refine bDr ?_ | refine bAl ?_ _)); exact BK135.out) hb); have n2_ := Z0.mk (blk_below (g := gb136) (o := .cells #[.int .i64 0, .slice none 0 0, .int .i64 0, .slice none 0 0] 39 (0, 0)) (by (with_reducible repeat (first | refine bDN ?_ _ | refine bDr ?_ | refine bAl ?_ _)); exact BK136.out) hb); have n3_ := Z0.mk (below_step (by repeat (first | (with_reducible first | exact HB.out | apply beA | apply bpN | apply bd1 | refine beS ?_ GE134.out | refine beS ?_ GE135.out | refine beS ?_ GE136.out) | exact HB.out)) hb); clear BK134; clear BK135; clear BK136; clear HB; have BK134 := n0_; have BK135 := n1_; have BK136 := n2_; have HB := n3_; clear n0_ n1_ n2_ n3_; (try clear hb); (try clear hb2); (try clear hk); (try clear hi)))
   go_meet
   case rel => exact ⟨_, (true), (by first | rfl | (simp; done) | (simp [*]; done)), H', ⟨by first | omega | exact Nat.le_refl _⟩, ⟨by (with_reducible repeat (first | refine bDN ?_ _ | refine bDr ?_ | refine bAl ?_ _)); exact BK134.out⟩, ⟨by (with_reducible repeat (first | refine bDN ?_ _ | refine bDr ?_ | refine bAl ?_ _)); exact BK135.out⟩, ⟨by (with_reducible repeat (first | refine bDN ?_ _ | refine bDr ?_ | refine bAl ?_ _)); exact BK136.out⟩, ⟨by repeat (first | (with_reducible first | exact HB.out | apply beA | apply bpN | apply bd1 | refine beS ?_ GE134.out | refine beS ?_ GE135.out | refine beS ?_ GE136.out) | exact HB.out)⟩⟩
 case rest =>
  clear HC3
  try clear c1
  try clear c2
  try clear p2
  try clear c8
  try clear c8b0
  try clear c8b1
  try clear c9
  try clear c10
  try clear c12
  try clear c17
  try clear c18
  try clear c19
  try clear c20
  try clear hcz11_0
  try clear hcz11_1
  try clear hcz11_2
  try clear hcz11_3
  try clear hcz13_0
  try clear hcz13_1
  try clear hcz13_2
  try clear hcz13_3
  try clear hcz15_0
  try clear hcz15_1
  try clear hcz15_2
  try clear hcz15_3
  try clear hcz16_0
  try clear hcz16_1
  try clear hcz16_2
  try clear hcz16_3
  try clear hcz19_0
  try clear hcz19_1
  try clear hcz19_2
  try clear hcz19_3
  try clear hcz21_0
  try clear hcz21_1
  try clear hcz21_2
  try clear hcz21_3
  try clear hfz11_0
  try clear hfz11_1
  try clear hfz11_2
  try clear hfz11_3
  try clear hfz13_0
  try clear hfz13_1
  try clear hfz13_2
  try clear hfz13_3
  try clear hfz15_0
  try clear hfz15_1
  try clear hfz15_2
  try clear hfz15_3
  try clear hfz16_0
  try clear hfz16_1
  try clear hfz16_2
  try clear hfz16_3
  try clear hfz19_0
  try clear hfz19_1
  try clear hfz19_2
  try clear hfz19_3
  try clear hfz21_0
  try clear hfz21_1
  try clear hfz21_2
  try clear hfz21_3
  obtain ⟨kq, x11_2, rfl, HA, HJ2, BK134, BK135, BK136, HB⟩ := hcut
  cases kq with
  | zero => exact absurd HA.out (by simp [rows_Join.j0])
  | succ kj2 =>
   have H := HA.out
   clear HA
   simp only [rows_Join.j0] at H
   by_cases c23 : x11_2 = true
   ·subst c23
    have H1 : (some (0, ([] : List ByteArray), 0, ([] : List (S71)), 131)) = some (r1, r2, r3, r4, r5) := by rw [if_pos rfl] at H; exact H
    clear H
    have H := H1
    clear H1
    simp only [Option.some.injEq, Prod.mk.injEq] at H
    obtain ⟨rfl, rfl, rfl, rfl, rfl⟩ := H
    have hnb24 := NB136_134.out
    have hnc24 := NB134_136.out
    have hnb25 := NB136_135.out
    have hnc25 := NB135_136.out
    have hcz26_0 : wc.cell? ⟨gb136, 0, none⟩ = some (.int .i64 0) := (bCe BK136.out 0).trans rfl
    have hcz26_1 : wc.cell? ⟨gb136, 1, none⟩ = some (.slice none 0 0) := (bCe BK136.out 1).trans rfl
    have hcz26_2 : wc.cell? ⟨gb136, 2, none⟩ = some (.int .i64 0) := (bCe BK136.out 2).trans rfl
    have hcz26_3 : wc.cell? ⟨gb136, 3, none⟩ = some (.slice none 0 0) := (bCe BK136.out 3).trans rfl
    have hfz26_0 := bFz BK136.out 0
    have hfz26_1 := bFz BK136.out 1
    have hfz26_2 := bFz BK136.out 2
    have hfz26_3 := bFz BK136.out 3
    go_wp2
    refine bodyPost_ret (results_ct rfl _ _ gb136 39 #[.int .i64 0, .slice none 0 0, .int .i64 0, .slice none 0 0] (0, 0) _ rfl (by (with_reducible repeat (first | refine bDN ?_ _ | refine bDr ?_ | refine bAl ?_ _)); refine blk_put (cs := #[.int .i64 0, .slice none 0 0, .int .i64 0, .slice none 0 0]) ?_ 3 _ rfl; (with_reducible repeat (first | refine bDN ?_ _ | refine bDr ?_ | refine bAl ?_ _)); refine blk_put (cs := #[.int .i64 0, .slice none 0 0, .int .i64 0, .slice none 0 0]) ?_ 2 _ rfl; (with_reducible repeat (first | refine bDN ?_ _ | refine bDr ?_ | refine bAl ?_ _)); refine blk_put (cs := #[.int .i64 0, .slice none 0 0, .int .i64 0, .slice none 0 0]) ?_ 1 _ rfl; (with_reducible repeat (first | refine bDN ?_ _ | refine bDr ?_ | refine bAl ?_ _)); refine blk_put (cs := #[.int .i64 0, .slice none 0 0, .int .i64 0, .slice none 0 0]) ?_ 0 _ rfl; (with_reducible repeat (first | refine bDN ?_ _ | refine bDr ?_ | refine bAl ?_ _)); exact BK136.out) Try.underlying39 rfl (by kernel_rfl)) rfl ?_
    exact ⟨_, _, by first | rfl | (simp [errW_none, errW_some] <;> rfl) | (simp [*, errW_none, errW_some] <;> rfl), by first | exact Kd.R_nil _ _ _ _ _ | exact Kd.N_nil _ _ _ _ _ | exact Kd.V_nil _ _ _ _ _ | exact Kd.Q_nil _ _ _ _ _ | exact Kd.S_nil _ _ _ _ _, by first | exact Kd.R_nil _ _ _ _ _ | exact Kd.N_nil _ _ _ _ _ | exact Kd.V_nil _ _ _ _ _ | exact Kd.Q_nil _ _ _ _ _ | exact Kd.S_nil _ _ _ _ _, by repeat (first | (with_reducible first | exact HB.out | apply beA | apply bpN | apply bd1 | refine beS ?_ GE134.out | refine beS ?_ GE135.out | refine beS ?_ GE136.out) | exact HB.out)⟩
   ·replace c23 := Bool.eq_false_iff.mpr c23
    subst c23
    have H1 : (if (wrap64 (a0_2 + a1_2)) > 1048576 then (some (0, ([] : List ByteArray), 0, ([] : List (S71)), 121)) else ((slices_Clone_string_string.f l0_1).bind fun t138 => (rows_Join.l0 kj2 l0_3 (l0_3.length : Int) 0 a1_0 l1_1 a1_2 l1_3 a0_0 t138 (wrap64 (a0_2 + a1_2)) ([] : List (S71))))) = some (r1, r2, r3, r4, r5) := by rw [if_neg (show ¬ (false = true) by decide)] at H; exact H
    clear H
    have H := H1
    clear H1
    by_cases c27 : (wrap64 (a0_2 + a1_2)) > 1048576
    ·rw [if_pos c27] at H
     have c27b0 : decide (1048576 < (wrap64 (a0_2 + a1_2))) = true := decide_eq_true c27
     clear c27
     simp only [Option.some.injEq, Prod.mk.injEq] at H
     obtain ⟨rfl, rfl, rfl, rfl, rfl⟩ := H
     have hnb28 := NB134_135.out
     have hnc28 := NB135_134.out
     have hnb29 := NB134_136.out
     have hnc29 := NB136_134.out
     have hcz30_0 : wc.cell? ⟨gb134, 0, none⟩ = some (.int .i64 a0_0) := (bCe BK134.out 0).trans rfl
     have hcz30_1 : wc.cell? ⟨gb134, 1, none⟩ = some (.slice A0_1 l0_1.length c0_1) := (bCe BK134.out 1).trans rfl
     have hcz30_2 : wc.cell? ⟨gb134, 2, none⟩ = some (.int .i64 a0_2) := (bCe BK134.out 2).trans rfl
     have hcz30_3 : wc.cell? ⟨gb134, 3, none⟩ = some (.slice A0_3 l0_3.length c0_3) := (bCe BK134.out 3).trans rfl
     have hfz30_0 := bFz BK134.out 0
     have hfz30_1 := bFz BK134.out 1
     have hfz30_2 := bFz BK134.out 2
     have hfz30_3 := bFz BK134.out 3
     have hnb31 := NB135_136.out
     have hnc31 := NB136_135.out
     have hcz32_0 : wc.cell? ⟨gb135, 0, none⟩ = some (.int .i64 a1_0) := (bCe BK135.out 0).trans rfl
     have hcz32_1 : wc.cell? ⟨gb135, 1, none⟩ = some (.slice A1_1 l1_1.length c1_1) := (bCe BK135.out 1).trans rfl
     have hcz32_2 : wc.cell? ⟨gb135, 2, none⟩ = some (.int .i64 a1_2) := (bCe BK135.out 2).trans rfl
     have hcz32_3 : wc.cell? ⟨gb135, 3, none⟩ = some (.slice A1_3 l1_3.length c1_3) := (bCe BK135.out 3).trans rfl
     have hfz32_0 := bFz BK135.out 0
     have hfz32_1 := bFz BK135.out 1
     have hfz32_2 := bFz BK135.out 2
     have hfz32_3 := bFz BK135.out 3
     have hcz33_0 : wc.cell? ⟨gb136, 0, none⟩ = some (.int .i64 0) := (bCe BK136.out 0).trans rfl
     have hcz33_1 : wc.cell? ⟨gb136, 1, none⟩ = some (.slice none 0 0) := (bCe BK136.out 1).trans rfl
     have hcz33_2 : wc.cell? ⟨gb136, 2, none⟩ = some (.int .i64 0) := (bCe BK136.out 2).trans rfl
     have hcz33_3 : wc.cell? ⟨gb136, 3, none⟩ = some (.slice none 0 0) := (bCe BK136.out 3).trans rfl
     have hfz33_0 := bFz BK136.out 0
     have hfz33_1 := bFz BK136.out 1
     have hfz33_2 := bFz BK136.out 2
     have hfz33_3 := bFz BK136.out 3
     go_wp2
     refine bodyPost_ret (results_ct rfl _ _ gb136 39 #[.int .i64 0, .slice none 0 0, .int .i64 0, .slice none 0 0] (0, 0) _ rfl (by (with_reducible repeat (first | refine bDN ?_ _ | refine bDr ?_ | refine bAl ?_ _)); refine blk_put (cs := #[.int .i64 0, .slice none 0 0, .int .i64 0, .slice none 0 0]) ?_ 3 _ rfl; (with_reducible repeat (first | refine bDN ?_ _ | refine bDr ?_ | refine bAl ?_ _)); refine blk_put (cs := #[.int .i64 0, .slice none 0 0, .int .i64 0, .slice none 0 0]) ?_ 2 _ rfl; (with_reducible repeat (first | refine bDN ?_ _ | refine bDr ?_ | refine bAl ?_ _)); refine blk_put (cs := #[.int .i64 0, .slice none 0 0, .int .i64 0, .slice none 0 0]) ?_ 1 _ rfl; (with_reducible repeat (first | refine bDN ?_ _ | refine bDr ?_ | refine bAl ?_ _)); refine blk_put (cs := #[.int .i64 0, .slice none 0 0, .int .i64 0, .slice none 0 0]) ?_ 0 _ rfl; (with_reducible repeat (first | refine bDN ?_ _ | refine bDr ?_ | refine bAl ?_ _)); exact BK136.out) Try.underlying39 rfl (by kernel_rfl)) rfl ?_
     exact ⟨_, _, by first | rfl | (simp [errW_none, errW_some] <;> rfl) | (simp [*, errW_none, errW_some] <;> rfl), by first | exact Kd.R_nil _ _ _ _ _ | exact Kd.N_nil _ _ _ _ _ | exact Kd.V_nil _ _ _ _ _ | exact Kd.Q_nil _ _ _ _ _ | exact Kd.S_nil _ _ _ _ _, by first | exact Kd.R_nil _ _ _ _ _ | exact Kd.N_nil _ _ _ _ _ | exact Kd.V_nil _ _ _ _ _ | exact Kd.Q_nil _ _ _ _ _ | exact Kd.S_nil _ _ _ _ _, by repeat (first | (with_reducible first | exact HB.out | apply beA | apply bpN | apply bd1 | refine beS ?_ GE134.out | refine beS ?_ GE135.out | refine beS ?_ GE136.out) | exact HB.out)⟩
    ·rw [if_neg c27] at H
     have c27b0 : decide (1048576 < (wrap64 (a0_2 + a1_2))) = false := decide_eq_false c27
     clear c27
     replace H := Option.bind_eq_some_iff.mp H
     obtain ⟨t138, A340, H⟩ := H
     replace H : (rows_Join.l0 kj2 l0_3 (l0_3.length : Int) 0 a1_0 l1_1 a1_2 l1_3 a0_0 t138 (wrap64 (a0_2 + a1_2)) ([] : List (S71))) = some (r1, r2, r3, r4, r5) := H
     have A34 := Z0.mk A340
     clear A340
     have H' := Z0.mk H
     clear H
     have hnb35 := NB134_135.out
     have hnc35 := NB135_134.out
     have hnb36 := NB134_136.out
     have hnc36 := NB136_134.out
     have hcz37_0 : wc.cell? ⟨gb134, 0, none⟩ = some (.int .i64 a0_0) := (bCe BK134.out 0).trans rfl
     have hcz37_1 : wc.cell? ⟨gb134, 1, none⟩ = some (.slice A0_1 l0_1.length c0_1) := (bCe BK134.out 1).trans rfl
     have hcz37_2 : wc.cell? ⟨gb134, 2, none⟩ = some (.int .i64 a0_2) := (bCe BK134.out 2).trans rfl
     have hcz37_3 : wc.cell? ⟨gb134, 3, none⟩ = some (.slice A0_3 l0_3.length c0_3) := (bCe BK134.out 3).trans rfl
     have hfz37_0 := bFz BK134.out 0
     have hfz37_1 := bFz BK134.out 1
     have hfz37_2 := bFz BK134.out 2
     have hfz37_3 := bFz BK134.out 3
     have hnb38 := NB135_136.out
     have hnc38 := NB136_135.out
     have hcz39_0 : wc.cell? ⟨gb135, 0, none⟩ = some (.int .i64 a1_0) := (bCe BK135.out 0).trans rfl
     have hcz39_1 : wc.cell? ⟨gb135, 1, none⟩ = some (.slice A1_1 l1_1.length c1_1) := (bCe BK135.out 1).trans rfl
     have hcz39_2 : wc.cell? ⟨gb135, 2, none⟩ = some (.int .i64 a1_2) := (bCe BK135.out 2).trans rfl
     have hcz39_3 : wc.cell? ⟨gb135, 3, none⟩ = some (.slice A1_3 l1_3.length c1_3) := (bCe BK135.out 3).trans rfl
     have hfz39_0 := bFz BK135.out 0
     have hfz39_1 := bFz BK135.out 1
     have hfz39_2 := bFz BK135.out 2
     have hfz39_3 := bFz BK135.out 3
     try go_wp2
     have n0_ := Z0.mk (bDr BK134.out)
     have n1_ := Z0.mk (bDr BK135.out)
     have n2_ := Z0.mk (bDr BK136.out)
     have n3_ := Z0.mk (bd1 HB.out)
     clear BK134
     clear BK135
     clear BK136
     clear HB
     have BK134 := n0_
     have BK135 := n1_
     have BK136 := n2_
     have HB := n3_
     clear n0_ n1_ n2_ n3_
     refine start_ (n := 13) (S := fun w' => w'.cell? ⟨gb134, 0, none⟩ = some (.int .i64 a0_0) ∧ w'.cell? ⟨gb134, 1, none⟩ = some (.slice A0_1 l0_1.length c0_1) ∧ w'.cell? ⟨gb134, 2, none⟩ = some (.int .i64 a0_2) ∧ w'.cell? ⟨gb134, 3, none⟩ = some (.slice A0_3 l0_3.length c0_3) ∧ w'.cell? ⟨gb135, 0, none⟩ = some (.int .i64 a1_0) ∧ w'.cell? ⟨gb135, 1, none⟩ = some (.slice A1_1 l1_1.length c1_1) ∧ w'.cell? ⟨gb135, 2, none⟩ = some (.int .i64 a1_2) ∧ w'.cell? ⟨gb135, 3, none⟩ = some (.slice A1_3 l1_3.length c1_3)) (ds := []) #[false, false, false, false, false, false, false, false, false, false, false, false, false] (by kernel_rfl) rfl rfl ⟨(bCe BK134.out 0).trans rfl, (bCe BK134.out 1).trans rfl, (bCe BK134.out 2).trans rfl, (bCe BK134.out 3).trans rfl, (bCe BK135.out 0).trans rfl, (bCe BK135.out 1).trans rfl, (bCe BK135.out 2).trans rfl, (bCe BK135.out 3).trans rfl⟩ (fun hHeld => ?_); refine with_tabW rows_Join.tab5 rows_Join.bits5 (fun HT_ HW_ => ?_)
     generalize wc.drew = w40 at BK134 BK135 BK136 HB hHeld ⊢
     refine pure_ (i := 0) (N := some 34) (v := ?_) (a' := ?_) #[true, false, false, false, false, false, false, false, false, false, false, false, false] rfl rfl (any_of HT_.out (by kernel_rfl)) (fun _ _ _ h => h) (Or.inl ⟨by rfl, ?_⟩) ?_ ?_
     rotate_left
     ·intro w'
      go_simp
      with_reducible rfl
     rotate_left
     ·simp only [Act.put, qA, qB, qC, i64_w, i32_w]
      rfl
     refine pure_ (i := 2) (N := some 36) (v := ?_) (a' := ?_) #[true, false, true, false, false, false, false, false, false, false, false, false, false] rfl rfl (any_of HT_.out (by kernel_rfl)) (fun _ _ _ h => h) (Or.inl ⟨by rfl, ?_⟩) ?_ ?_
     rotate_left
     ·intro w'
      go_simp
      with_reducible rfl
     rotate_left
     ·simp only [Act.put, qA, qB, qC, i64_w, i32_w]
      rfl
     refine pure_ (i := 5) (N := some 39) (v := ?_) (a' := ?_) #[true, false, true, false, false, true, false, false, false, false, false, false, false] rfl rfl (any_of HT_.out (by kernel_rfl)) (fun _ _ _ h => h) (Or.inl ⟨by rfl, ?_⟩) ?_ ?_
     rotate_left
     ·intro w'
      go_simp
      with_reducible rfl
     rotate_left
     ·simp only [Act.put, qA, qB, qC, i64_w, i32_w]
      rfl
     refine pure_ (i := 7) (N := some 41) (v := ?_) (a' := ?_) #[true, false, true, false, false, true, false, true, false, false, false, false, false] rfl rfl (any_of HT_.out (by kernel_rfl)) (fun _ _ _ h => h) (Or.inl ⟨by rfl, ?_⟩) ?_ ?_
     rotate_left
     ·intro w'
      go_simp
      with_reducible rfl
     rotate_left
     ·simp only [Act.put, qA, qB, qC, i64_w, i32_w]
      rfl
     refine take_ (i := 1) (N := some 35) (v := ?_) (a' := ?_) #[true, true, true, false, false, true, false, true, false, false, false, false, false] rfl rfl (take_ofW HT_.out HW_.out (by kernel_rfl)) (fun _ _ _ h => h) (Or.inl ⟨by rfl, ?_⟩) hHeld ?_ ?_
     rotate_left
     ·rintro w' ⟨s0, s1, s2, s3, s4, s5, s6, s7⟩
      go_simp
      with_reducible rfl
     rotate_left
     ·simp only [Act.put, qA, qB, qC, i64_w, i32_w]
      rfl
     refine take_ (i := 3) (N := some 37) (v := ?_) (a' := ?_) #[true, true, true, true, false, true, false, true, false, false, false, false, false] rfl rfl (take_ofW HT_.out HW_.out (by kernel_rfl)) (fun _ _ _ h => h) (Or.inl ⟨by rfl, ?_⟩) hHeld ?_ ?_
     rotate_left
     ·rintro w' ⟨s0, s1, s2, s3, s4, s5, s6, s7⟩
      go_simp
      with_reducible rfl
     rotate_left
     ·simp only [Act.put, qA, qB, qC, i64_w, i32_w]
      rfl
     refine take_ (i := 6) (N := some 40) (v := ?_) (a' := ?_) #[true, true, true, true, false, true, true, true, false, false, false, false, false] rfl rfl (take_ofW HT_.out HW_.out (by kernel_rfl)) (fun _ _ _ h => h) (Or.inl ⟨by rfl, ?_⟩) hHeld ?_ ?_
     rotate_left
     ·rintro w' ⟨s0, s1, s2, s3, s4, s5, s6, s7⟩
      go_simp
      with_reducible rfl
     rotate_left
     ·simp only [Act.put, qA, qB, qC, i64_w, i32_w]
      rfl
     refine take_ (i := 8) (N := some 42) (v := ?_) (a' := ?_) #[true, true, true, true, false, true, true, true, true, false, false, false, false] rfl rfl (take_ofW HT_.out HW_.out (by kernel_rfl)) (fun _ _ _ h => h) (Or.inl ⟨by rfl, ?_⟩) hHeld ?_ ?_
     rotate_left
     ·rintro w' ⟨s0, s1, s2, s3, s4, s5, s6, s7⟩
      go_simp
      with_reducible rfl
     rotate_left
     ·simp only [Act.put, qA, qB, qC, i64_w, i32_w]
      rfl
     refine pure_ (i := 9) (N := some 43) (v := ?_) (a' := ?_) #[true, true, true, true, false, true, true, true, true, true, false, false, false] rfl rfl (any_of HT_.out (by kernel_rfl)) (fun _ _ _ h => h) (Or.inl ⟨by rfl, ?_⟩) ?_ ?_
     rotate_left
     ·intro w'
      go_simp
      with_reducible rfl
     rotate_left
     ·simp only [Act.put, qA, qB, qC, i64_w, i32_w]
      rfl
     refine join_ (σ := Value × Nat) 1 #[true, true, true, true, true, true, true, true, true, true, true, true, false] (fun s_ => [(38, s_.1), (6, .pointer (some ⟨s_.2, 0, none⟩)), (44, .agg #[.int .i64 a0_0, s_.1, .int .i64 (wrap64 (a0_2 + a1_2)), .slice none 0 0])]) (fun s_ w' => (w'.cell? ⟨gb134, 0, none⟩ = some (.int .i64 a0_0) ∧ w'.cell? ⟨gb134, 1, none⟩ = some (.slice A0_1 l0_1.length c0_1) ∧ w'.cell? ⟨gb134, 2, none⟩ = some (.int .i64 a0_2) ∧ w'.cell? ⟨gb134, 3, none⟩ = some (.slice A0_3 l0_3.length c0_3) ∧ w'.cell? ⟨gb135, 0, none⟩ = some (.int .i64 a1_0) ∧ w'.cell? ⟨gb135, 1, none⟩ = some (.slice A1_1 l1_1.length c1_1) ∧ w'.cell? ⟨gb135, 2, none⟩ = some (.int .i64 a1_2) ∧ w'.cell? ⟨gb135, 3, none⟩ = some (.slice A1_3 l1_3.length c1_3)) ∧ (Kd.R Kd.string 9 w' w.heap.size (fun _ => True) s_.1 t138) ∧ (w'.heap[gb134]? = some (.cells #[.int .i64 a0_0, .slice A0_1 l0_1.length c0_1, .int .i64 a0_2, .slice A0_3 l0_3.length c0_3] 39 (0, 0))) ∧ (w'.heap[gb135]? = some (.cells #[.int .i64 a1_0, .slice A1_1 l1_1.length c1_1, .int .i64 a1_2, .slice A1_3 l1_3.length c1_3] 39 (0, 0))) ∧ (w'.heap[gb136]? = some (.cells #[.int .i64 0, .slice none 0 0, .int .i64 0, .slice none 0 0] 39 (0, 0))) ∧ (w'.heap[s_.2]? = some (.cells #[.int .i64 0, .slice none 0 0, .int .i64 0, .slice none 0 0] 39 (0, 0))) ∧ (w.heap.size ≤ s_.2) ∧ (w.heap.size ≤ s_.2) ∧ (gb134 ≠ s_.2) ∧ (s_.2 ≠ gb134) ∧ (gb135 ≠ s_.2) ∧ (s_.2 ≠ gb135) ∧ (gb136 ≠ s_.2) ∧ (s_.2 ≠ gb136) ∧ (Below w.heap.size w w')) ?_ ?_
     rotate_left
     ·intro hCont
      refine two_ (i := 4) (j := 11) (Ni := some 38) (Nj := some 6) #[true, true, true, true, true, true, true, true, true, true, false, false, false] #[true, true, true, true, false, true, true, true, true, true, false, true, false] rfl rfl rfl rfl (two_of HT_.out (by kernel_rfl)) (by decide) (by decide) (fun K hK => ?_) (fun K hK => ?_)
      ·skip
       refine goes_ Try.func42 (by kernel_rfl) rfl #[.slice A0_1 l0_1.length c0_1] (by rfl) rfl rfl (by (try simp only [List.map_toArray, List.map_cons, List.map_nil]); first | done | rfl | (simp only [List.length_drop, List.length_take]; rfl)) ?_
       with_reducible refine (slices_Clone_string_string.calls _ _ l0_1 t138 _ ?side1 ?side2 A34.out).mono ?_
       (case side1 => repeat (first | exact (Kd.C_below HR0_1.out HB.out) | (with_reducible refine Kd.C_alloc ?_ _) | (with_reducible refine Kd.C_drewN ?_ _) | (with_reducible refine Kd.C_drew ?_)))
       (case side2 => exact HC0_1.out)
       rintro e w41 ⟨v139, rfl, ho0, hb⟩
       refine ⟨_, rfl, ?_⟩
       have n0_ := Z0.mk (Kd.R_lower ho0 (below_size (by repeat (first | (with_reducible first | exact HB.out | apply beA | apply bpN | apply bd1 | refine beS ?_ GE134.out | refine beS ?_ GE135.out | refine beS ?_ GE136.out) | exact HB.out))))
       have n1_ := Z0.mk (blk_below (g := gb134) (o := .cells #[.int .i64 a0_0, .slice A0_1 l0_1.length c0_1, .int .i64 a0_2, .slice A0_3 l0_3.length c0_3] 39 (0, 0)) (by (with_reducible repeat (first | refine bDN ?_ _ | refine bDr ?_ | refine bAl ?_ _)); exact BK134.out) hb)
       have n2_ := Z0.mk (blk_below (g := gb135) (o := .cells #[.int .i64 a1_0, .slice A1_1 l1_1.length c1_1, .int .i64 a1_2, .slice A1_3 l1_3.length c1_3] 39 (0, 0)) (by (with_reducible repeat (first | refine bDN ?_ _ | refine bDr ?_ | refine bAl ?_ _)); exact BK135.out) hb)
       have n3_ := Z0.mk (blk_below (g := gb136) (o := .cells #[.int .i64 0, .slice none 0 0, .int .i64 0, .slice none 0 0] 39 (0, 0)) (by (with_reducible repeat (first | refine bDN ?_ _ | refine bDr ?_ | refine bAl ?_ _)); exact BK136.out) hb)
       have n4_ := Z0.mk (below_step (by repeat (first | (with_reducible first | exact HB.out | apply beA | apply bpN | apply bd1 | refine beS ?_ GE134.out | refine beS ?_ GE135.out | refine beS ?_ GE136.out) | exact HB.out)) hb)
       clear BK134
       clear BK135
       clear BK136
       clear HB
       have HO140 := n0_
       have BK134 := n1_
       have BK135 := n2_
       have BK136 := n3_
       have HB := n4_
       clear n0_ n1_ n2_ n3_ n4_
       (try clear hb)
       (try clear hb2)
       (try clear hk)
       (try clear hi)
       (try clear ho0)
       obtain ⟨Ao42, co42, eo42⟩ := Kd.R_slice HO140.out
       (first | subst eo42 | (injection eo42 with f1_ f2_ f3_; have f4_ := f1_.symm; have f5_ := f3_.symm; clear f1_ f2_ f3_; subst f4_; subst f5_))
       refine hK.out _ _ ⟨(bCe BK134.out 0).trans rfl, (bCe BK134.out 1).trans rfl, (bCe BK134.out 2).trans rfl, (bCe BK134.out 3).trans rfl, (bCe BK135.out 0).trans rfl, (bCe BK135.out 1).trans rfl, (bCe BK135.out 2).trans rfl, (bCe BK135.out 3).trans rfl⟩ (fun hHeld => ?_)
       clear hK K
       refine norm_ (a' := ?_) ?_ ?_
       rotate_left
       ·show Act.put _ (some 38) _ = _
        simp only [Act.put, qA, qB, qC, i64_w, i32_w]
        rfl
       refine pure_ (i := 10) (N := some 44) (v := ?_) (a' := ?_) #[true, true, true, true, true, true, true, true, true, true, true, false, false] rfl rfl (any_of HT_.out (by kernel_rfl)) (fun _ _ _ h => h) (Or.inl ⟨by rfl, ?_⟩) ?_ ?_
       rotate_left
       ·intro w'
        go_simp
        with_reducible rfl
       rotate_left
       ·simp only [Act.put, qA, qB, qC, i64_w, i32_w]
        rfl
       refine one_ (i := 11) (N := some 6) #[true, true, true, true, true, true, true, true, true, true, true, true, false] rfl rfl (one_of HT_.out (by kernel_rfl)) (by decide) (fun K hK => ?_)
       refine box_step ?hg (N := 6) ?hd (cs := #[.int .i64 0, .slice none 0 0, .int .i64 0, .slice none 0 0]) (t := 39) ?hr ?_; (case hd => rfl); (case hg => rfl); (case hr => first | (go_simp; done) | (go_simp; rfl))
       intro gb141 hg w43 hbox hb
       have n0_ := Z0.mk (Kd.R_below (by (with_reducible repeat (first | apply Kd.R_alloc | apply Kd.R_drewN | apply Kd.R_drew)); exact HO140.out) hb)
       have n1_ := Z0.mk (blk_below (g := gb134) (o := .cells #[.int .i64 a0_0, .slice A0_1 l0_1.length c0_1, .int .i64 a0_2, .slice A0_3 l0_3.length c0_3] 39 (0, 0)) (by (with_reducible repeat (first | refine bDN ?_ _ | refine bDr ?_ | refine bAl ?_ _)); exact BK134.out) hb)
       have n2_ := Z0.mk (blk_below (g := gb135) (o := .cells #[.int .i64 a1_0, .slice A1_1 l1_1.length c1_1, .int .i64 a1_2, .slice A1_3 l1_3.length c1_3] 39 (0, 0)) (by (with_reducible repeat (first | refine bDN ?_ _ | refine bDr ?_ | refine bAl ?_ _)); exact BK135.out) hb)
       have n3_ := Z0.mk (blk_below (g := gb136) (o := .cells #[.int .i64 0, .slice none 0 0, .int .i64 0, .slice none 0 0] 39 (0, 0)) (by (with_reducible repeat (first | refine bDN ?_ _ | refine bDr ?_ | refine bAl ?_ _)); exact BK136.out) hb)
       have n4_ := Z0.mk (below_step (by repeat (first | (with_reducible first | exact HB.out | apply beA | apply bpN | apply bd1 | refine beS ?_ GE134.out | refine beS ?_ GE135.out | refine beS ?_ GE136.out) | exact HB.out)) hb)
       have n5_ := Z0.mk (hbox)
       have n6_ := Z0.mk ((by rw [hg]; exact (below_size (by repeat (first | (with_reducible first | exact HB.out | apply beA | apply bpN | apply bd1 | refine beS ?_ GE134.out | refine beS ?_ GE135.out | refine beS ?_ GE136.out) | exact HB.out))) : w.heap.size ≤ gb141))
       have n7_ := Z0.mk ((by rw [hg]; exact (below_size (by repeat (first | (with_reducible first | exact HB.out | apply beA | apply bpN | apply bd1 | refine beS ?_ GE134.out | refine beS ?_ GE135.out | refine beS ?_ GE136.out) | exact HB.out))) : w.heap.size ≤ gb141))
       have n8_ := Z0.mk ((by rw [hg]; exact Nat.ne_of_lt (blk_lt (g := gb134) (o := .cells #[.int .i64 a0_0, .slice A0_1 l0_1.length c0_1, .int .i64 a0_2, .slice A0_3 l0_3.length c0_3] 39 (0, 0)) (by (with_reducible repeat (first | refine bDN ?_ _ | refine bDr ?_ | refine bAl ?_ _)); exact BK134.out)) : gb134 ≠ gb141))
       have n9_ := Z0.mk ((by rw [hg]; exact Nat.ne_of_gt (blk_lt (g := gb134) (o := .cells #[.int .i64 a0_0, .slice A0_1 l0_1.length c0_1, .int .i64 a0_2, .slice A0_3 l0_3.length c0_3] 39 (0, 0)) (by (with_reducible repeat (first | refine bDN ?_ _ | refine bDr ?_ | refine bAl ?_ _)); exact BK134.out)) : gb141 ≠ gb134))
       have n10_ := Z0.mk ((by rw [hg]; exact Nat.ne_of_lt (blk_lt (g := gb135) (o := .cells #[.int .i64 a1_0, .slice A1_1 l1_1.length c1_1, .int .i64 a1_2, .slice A1_3 l1_3.length c1_3] 39 (0, 0)) (by (with_reducible repeat (first | refine bDN ?_ _ | refine bDr ?_ | refine bAl ?_ _)); exact BK135.out)) : gb135 ≠ gb141))
       have n11_ := Z0.mk ((by rw [hg]; exact Nat.ne_of_gt (blk_lt (g := gb135) (o := .cells #[.int .i64 a1_0, .slice A1_1 l1_1.length c1_1, .int .i64 a1_2, .slice A1_3 l1_3.length c1_3] 39 (0, 0)) (by (with_reducible repeat (first | refine bDN ?_ _ | refine bDr ?_ | refine bAl ?_ _)); exact BK135.out)) : gb141 ≠ gb135))
       have n12_ := Z0.mk ((by rw [hg]; exact Nat.ne_of_lt (blk_lt (g := gb136) (o := .cells #[.int .i64 0, .slice none 0 0, .int .i64 0, .slice none 0 0] 39 (0, 0)) (by (with_reducible repeat (first | refine bDN ?_ _ | refine bDr ?_ | refine bAl ?_ _)); exact BK136.out)) : gb136 ≠ gb141))
       have n13_ := Z0.mk ((by rw [hg]; exact Nat.ne_of_gt (blk_lt (g := gb136) (o := .cells #[.int .i64 0, .slice none 0 0, .int .i64 0, .slice none 0 0] 39 (0, 0)) (by (with_reducible repeat (first | refine bDN ?_ _ | refine bDr ?_ | refine bAl ?_ _)); exact BK136.out)) : gb141 ≠ gb136))
       clear HO140
       clear BK134
       clear BK135
       clear BK136
       clear HB
       have HO140 := n0_
       have BK134 := n1_
       have BK135 := n2_
       have BK136 := n3_
       have HB := n4_
       have BK141 := n5_
       have GW141 := n6_
       have GE141 := n7_
       have NB134_141 := n8_
       have NB141_134 := n9_
       have NB135_141 := n10_
       have NB141_135 := n11_
       have NB136_141 := n12_
       have NB141_136 := n13_
       clear n0_ n1_ n2_ n3_ n4_ n5_ n6_ n7_ n8_ n9_ n10_ n11_ n12_ n13_
       clear hb hbox hg
       refine hK.out _ _ ⟨(bCe BK134.out 0).trans rfl, (bCe BK134.out 1).trans rfl, (bCe BK134.out 2).trans rfl, (bCe BK134.out 3).trans rfl, (bCe BK135.out 0).trans rfl, (bCe BK135.out 1).trans rfl, (bCe BK135.out 2).trans rfl, (bCe BK135.out 3).trans rfl⟩ (fun hHeld => ?_)
       clear hK K
       refine norm_ (a' := ?_) ?_ ?_
       rotate_left
       ·show Act.put _ (some 6) _ = _
        simp only [Act.put, qA, qB, qC, i64_w, i32_w]
        rfl
       exact norm_ (by simp only [putAll, Act.put, qA, qB, qC]) (hCont (.slice Ao42 t138.length co42, gb141) _ ⟨hHeld, (by (with_reducible repeat (first | apply Kd.R_alloc | apply Kd.R_drewN | apply Kd.R_drew)); exact HO140.out), (by (with_reducible repeat (first | refine bDN ?_ _ | refine bDr ?_ | refine bAl ?_ _)); exact BK134.out), (by (with_reducible repeat (first | refine bDN ?_ _ | refine bDr ?_ | refine bAl ?_ _)); exact BK135.out), (by (with_reducible repeat (first | refine bDN ?_ _ | refine bDr ?_ | refine bAl ?_ _)); exact BK136.out), (by (with_reducible repeat (first | refine bDN ?_ _ | refine bDr ?_ | refine bAl ?_ _)); exact BK141.out), GW141.out, GE141.out, NB134_141.out, NB141_134.out, NB135_141.out, NB141_135.out, NB136_141.out, NB141_136.out, (by repeat (first | (with_reducible first | exact HB.out | apply beA | apply bpN | apply bd1 | refine beS ?_ GE134.out | refine beS ?_ GE135.out | refine beS ?_ GE136.out | refine beS ?_ GE141.out) | exact HB.out))⟩)
      ·skip
       refine box_step ?hg (N := 6) ?hd (cs := #[.int .i64 0, .slice none 0 0, .int .i64 0, .slice none 0 0]) (t := 39) ?hr ?_; (case hd => rfl); (case hg => rfl); (case hr => first | (go_simp; done) | (go_simp; rfl))
       intro gb141 hg w41 hbox hb
       have n0_ := Z0.mk (blk_below (g := gb134) (o := .cells #[.int .i64 a0_0, .slice A0_1 l0_1.length c0_1, .int .i64 a0_2, .slice A0_3 l0_3.length c0_3] 39 (0, 0)) (by (with_reducible repeat (first | refine bDN ?_ _ | refine bDr ?_ | refine bAl ?_ _)); exact BK134.out) hb)
       have n1_ := Z0.mk (blk_below (g := gb135) (o := .cells #[.int .i64 a1_0, .slice A1_1 l1_1.length c1_1, .int .i64 a1_2, .slice A1_3 l1_3.length c1_3] 39 (0, 0)) (by (with_reducible repeat (first | refine bDN ?_ _ | refine bDr ?_ | refine bAl ?_ _)); exact BK135.out) hb)
       have n2_ := Z0.mk (blk_below (g := gb136) (o := .cells #[.int .i64 0, .slice none 0 0, .int .i64 0, .slice none 0 0] 39 (0, 0)) (by (with_reducible repeat (first | refine bDN ?_ _ | refine bDr ?_ | refine bAl ?_ _)); exact BK136.out) hb)
       have n3_ := Z0.mk (below_step (by repeat (first | (with_reducible first | exact HB.out | apply beA | apply bpN | apply bd1 | refine beS ?_ GE134.out | refine beS ?_ GE135.out | refine beS ?_ GE136.out) | exact HB.out)) hb)
       have n4_ := Z0.mk (hbox)
       have n5_ := Z0.mk ((by rw [hg]; exact (below_size (by repeat (first | (with_reducible first | exact HB.out | apply beA | apply bpN | apply bd1 | refine beS ?_ GE134.out | refine beS ?_ GE135.out | refine beS ?_ GE136.out) | exact HB.out))) : w.heap.size ≤ gb141))
       have n6_ := Z0.mk ((by rw [hg]; exact (below_size (by repeat (first | (with_reducible first | exact HB.out | apply beA | apply bpN | apply bd1 | refine beS ?_ GE134.out | refine beS ?_ GE135.out | refine beS ?_ GE136.out) | exact HB.out))) : w.heap.size ≤ gb141))
       have n7_ := Z0.mk ((by rw [hg]; exact Nat.ne_of_lt (blk_lt (g := gb134) (o := .cells #[.int .i64 a0_0, .slice A0_1 l0_1.length c0_1, .int .i64 a0_2, .slice A0_3 l0_3.length c0_3] 39 (0, 0)) (by (with_reducible repeat (first | refine bDN ?_ _ | refine bDr ?_ | refine bAl ?_ _)); exact BK134.out)) : gb134 ≠ gb141))
       have n8_ := Z0.mk ((by rw [hg]; exact Nat.ne_of_gt (blk_lt (g := gb134) (o := .cells #[.int .i64 a0_0, .slice A0_1 l0_1.length c0_1, .int .i64 a0_2, .slice A0_3 l0_3.length c0_3] 39 (0, 0)) (by (with_reducible repeat (first | refine bDN ?_ _ | refine bDr ?_ | refine bAl ?_ _)); exact BK134.out)) : gb141 ≠ gb134))
       have n9_ := Z0.mk ((by rw [hg]; exact Nat.ne_of_lt (blk_lt (g := gb135) (o := .cells #[.int .i64 a1_0, .slice A1_1 l1_1.length c1_1, .int .i64 a1_2, .slice A1_3 l1_3.length c1_3] 39 (0, 0)) (by (with_reducible repeat (first | refine bDN ?_ _ | refine bDr ?_ | refine bAl ?_ _)); exact BK135.out)) : gb135 ≠ gb141))
       have n10_ := Z0.mk ((by rw [hg]; exact Nat.ne_of_gt (blk_lt (g := gb135) (o := .cells #[.int .i64 a1_0, .slice A1_1 l1_1.length c1_1, .int .i64 a1_2, .slice A1_3 l1_3.length c1_3] 39 (0, 0)) (by (with_reducible repeat (first | refine bDN ?_ _ | refine bDr ?_ | refine bAl ?_ _)); exact BK135.out)) : gb141 ≠ gb135))
       have n11_ := Z0.mk ((by rw [hg]; exact Nat.ne_of_lt (blk_lt (g := gb136) (o := .cells #[.int .i64 0, .slice none 0 0, .int .i64 0, .slice none 0 0] 39 (0, 0)) (by (with_reducible repeat (first | refine bDN ?_ _ | refine bDr ?_ | refine bAl ?_ _)); exact BK136.out)) : gb136 ≠ gb141))
       have n12_ := Z0.mk ((by rw [hg]; exact Nat.ne_of_gt (blk_lt (g := gb136) (o := .cells #[.int .i64 0, .slice none 0 0, .int .i64 0, .slice none 0 0] 39 (0, 0)) (by (with_reducible repeat (first | refine bDN ?_ _ | refine bDr ?_ | refine bAl ?_ _)); exact BK136.out)) : gb141 ≠ gb136))
       clear BK134
       clear BK135
       clear BK136
       clear HB
       have BK134 := n0_
       have BK135 := n1_
       have BK136 := n2_
       have HB := n3_
       have BK141 := n4_
       have GW141 := n5_
       have GE141 := n6_
       have NB134_141 := n7_
       have NB141_134 := n8_
       have NB135_141 := n9_
       have NB141_135 := n10_
       have NB136_141 := n11_
       have NB141_136 := n12_
       clear n0_ n1_ n2_ n3_ n4_ n5_ n6_ n7_ n8_ n9_ n10_ n11_ n12_
       clear hb hbox hg
       refine hK.out _ _ ⟨(bCe BK134.out 0).trans rfl, (bCe BK134.out 1).trans rfl, (bCe BK134.out 2).trans rfl, (bCe BK134.out 3).trans rfl, (bCe BK135.out 0).trans rfl, (bCe BK135.out 1).trans rfl, (bCe BK135.out 2).trans rfl, (bCe BK135.out 3).trans rfl⟩ (fun hHeld => ?_)
       clear hK K
       refine norm_ (a' := ?_) ?_ ?_
       rotate_left
       ·show Act.put _ (some 6) _ = _
        simp only [Act.put, qA, qB, qC, i64_w, i32_w]
        rfl
       refine one_ (i := 4) (N := some 38) #[true, true, true, true, true, true, true, true, true, true, false, true, false] rfl rfl (one_of HT_.out (by kernel_rfl)) (by decide) (fun K hK => ?_)
       refine goes_ Try.func42 (by kernel_rfl) rfl #[.slice A0_1 l0_1.length c0_1] (by rfl) rfl rfl (by (try simp only [List.map_toArray, List.map_cons, List.map_nil]); first | done | rfl | (simp only [List.length_drop, List.length_take]; rfl)) ?_
       with_reducible refine (slices_Clone_string_string.calls _ _ l0_1 t138 _ ?side1 ?side2 A34.out).mono ?_
       (case side1 => repeat (first | exact (Kd.C_below HR0_1.out HB.out) | (with_reducible refine Kd.C_alloc ?_ _) | (with_reducible refine Kd.C_drewN ?_ _) | (with_reducible refine Kd.C_drew ?_)))
       (case side2 => exact HC0_1.out)
       rintro e w42 ⟨v139, rfl, ho0, hb⟩
       refine ⟨_, rfl, ?_⟩
       have n0_ := Z0.mk (Kd.R_lower ho0 (below_size (by repeat (first | (with_reducible first | exact HB.out | apply beA | apply bpN | apply bd1 | refine beS ?_ GE134.out | refine beS ?_ GE135.out | refine beS ?_ GE136.out | refine beS ?_ GE141.out) | exact HB.out))))
       have n1_ := Z0.mk (blk_below (g := gb134) (o := .cells #[.int .i64 a0_0, .slice A0_1 l0_1.length c0_1, .int .i64 a0_2, .slice A0_3 l0_3.length c0_3] 39 (0, 0)) (by (with_reducible repeat (first | refine bDN ?_ _ | refine bDr ?_ | refine bAl ?_ _)); exact BK134.out) hb)
       have n2_ := Z0.mk (blk_below (g := gb135) (o := .cells #[.int .i64 a1_0, .slice A1_1 l1_1.length c1_1, .int .i64 a1_2, .slice A1_3 l1_3.length c1_3] 39 (0, 0)) (by (with_reducible repeat (first | refine bDN ?_ _ | refine bDr ?_ | refine bAl ?_ _)); exact BK135.out) hb)
       have n3_ := Z0.mk (blk_below (g := gb136) (o := .cells #[.int .i64 0, .slice none 0 0, .int .i64 0, .slice none 0 0] 39 (0, 0)) (by (with_reducible repeat (first | refine bDN ?_ _ | refine bDr ?_ | refine bAl ?_ _)); exact BK136.out) hb)
       have n4_ := Z0.mk (blk_below (g := gb141) (o := .cells #[.int .i64 0, .slice none 0 0, .int .i64 0, .slice none 0 0] 39 (0, 0)) (by (with_reducible repeat (first | refine bDN ?_ _ | refine bDr ?_ | refine bAl ?_ _)); exact BK141.out) hb)
       have n5_ := Z0.mk (below_step (by repeat (first | (with_reducible first | exact HB.out | apply beA | apply bpN | apply bd1 | refine beS ?_ GE134.out | refine beS ?_ GE135.out | refine beS ?_ GE136.out | refine beS ?_ GE141.out) | exact HB.out)) hb)
       clear BK134
       clear BK135
       clear BK136
       clear BK141
       clear HB
       have HO140 := n0_
       have BK134 := n1_
       have BK135 := n2_
       have BK136 := n3_
       have BK141 := n4_
       have HB := n5_
       clear n0_ n1_ n2_ n3_ n4_ n5_
       (try clear hb)
       (try clear hb2)
       (try clear hk)
       (try clear hi)
       (try clear ho0)
       obtain ⟨Ao43, co43, eo43⟩ := Kd.R_slice HO140.out
       (first | subst eo43 | (injection eo43 with f1_ f2_ f3_; have f4_ := f1_.symm; have f5_ := f3_.symm; clear f1_ f2_ f3_; subst f4_; subst f5_))
       refine hK.out _ _ ⟨(bCe BK134.out 0).trans rfl, (bCe BK134.out 1).trans rfl, (bCe BK134.out 2).trans rfl, (bCe BK134.out 3).trans rfl, (bCe BK135.out 0).trans rfl, (bCe BK135.out 1).trans rfl, (bCe BK135.out 2).trans rfl, (bCe BK135.out 3).trans rfl⟩ (fun hHeld => ?_)
       clear hK K
       refine norm_ (a' := ?_) ?_ ?_
       rotate_left
       ·show Act.put _ (some 38) _ = _
        simp only [Act.put, qA, qB, qC, i64_w, i32_w]
        rfl
       refine pure_ (i := 10) (N := some 44) (v := ?_) (a' := ?_) #[true, true, true, true, true, true, true, true, true, true, true, true, false] rfl rfl (any_of HT_.out (by kernel_rfl)) (fun _ _ _ h => h) (Or.inl ⟨by rfl, ?_⟩) ?_ ?_
       rotate_left
       ·intro w'
        go_simp
        with_reducible rfl
       rotate_left
       ·simp only [Act.put, qA, qB, qC, i64_w, i32_w]
        rfl
       exact norm_ (by simp only [putAll, Act.put, qA, qB, qC]) (hCont (.slice Ao43 t138.length co43, gb141) _ ⟨hHeld, (by (with_reducible repeat (first | apply Kd.R_alloc | apply Kd.R_drewN | apply Kd.R_drew)); exact HO140.out), (by (with_reducible repeat (first | refine bDN ?_ _ | refine bDr ?_ | refine bAl ?_ _)); exact BK134.out), (by (with_reducible repeat (first | refine bDN ?_ _ | refine bDr ?_ | refine bAl ?_ _)); exact BK135.out), (by (with_reducible repeat (first | refine bDN ?_ _ | refine bDr ?_ | refine bAl ?_ _)); exact BK136.out), (by (with_reducible repeat (first | refine bDN ?_ _ | refine bDr ?_ | refine bAl ?_ _)); exact BK141.out), GW141.out, GE141.out, NB134_141.out, NB141_134.out, NB135_141.out, NB141_135.out, NB136_141.out, NB141_136.out, (by repeat (first | (with_reducible first | exact HB.out | apply beA | apply bpN | apply bd1 | refine beS ?_ GE134.out | refine beS ?_ GE135.out | refine beS ?_ GE136.out | refine beS ?_ GE141.out) | exact HB.out))⟩)
     rintro ⟨v139, gb141⟩ w44 ⟨hS_, h0_, h1_, h2_, h3_, h4_, h5_, h6_, h7_, h8_, h9_, h10_, h11_, h12_, h13_⟩
     have n0_ : Z0 (Kd.R Kd.string 9 w44 w.heap.size (fun _ => True) v139 t138) := ⟨h0_⟩
     have n1_ : Z0 (w44.heap[gb134]? = some (.cells #[.int .i64 a0_0, .slice A0_1 l0_1.length c0_1, .int .i64 a0_2, .slice A0_3 l0_3.length c0_3] 39 (0, 0))) := ⟨h1_⟩
     have n2_ : Z0 (w44.heap[gb135]? = some (.cells #[.int .i64 a1_0, .slice A1_1 l1_1.length c1_1, .int .i64 a1_2, .slice A1_3 l1_3.length c1_3] 39 (0, 0))) := ⟨h2_⟩
     have n3_ : Z0 (w44.heap[gb136]? = some (.cells #[.int .i64 0, .slice none 0 0, .int .i64 0, .slice none 0 0] 39 (0, 0))) := ⟨h3_⟩
     have n4_ : Z0 (w44.heap[gb141]? = some (.cells #[.int .i64 0, .slice none 0 0, .int .i64 0, .slice none 0 0] 39 (0, 0))) := ⟨h4_⟩
     have n5_ : Z0 (w.heap.size ≤ gb141) := ⟨h5_⟩
     have n6_ : Z0 (w.heap.size ≤ gb141) := ⟨h6_⟩
     have n7_ : Z0 (gb134 ≠ gb141) := ⟨h7_⟩
     have n8_ : Z0 (gb141 ≠ gb134) := ⟨h8_⟩
     have n9_ : Z0 (gb135 ≠ gb141) := ⟨h9_⟩
     have n10_ : Z0 (gb141 ≠ gb135) := ⟨h10_⟩
     have n11_ : Z0 (gb136 ≠ gb141) := ⟨h11_⟩
     have n12_ : Z0 (gb141 ≠ gb136) := ⟨h12_⟩
     have n13_ : Z0 (Below w.heap.size w w44) := ⟨h13_⟩
     clear BK134
     clear BK135
     clear BK136
     clear HB
     clear h0_ h1_ h2_ h3_ h4_ h5_ h6_ h7_ h8_ h9_ h10_ h11_ h12_ h13_
     have HO140 := n0_
     have BK134 := n1_
     have BK135 := n2_
     have BK136 := n3_
     have BK141 := n4_
     have GW141 := n5_
     have GE141 := n6_
     have NB134_141 := n7_
     have NB141_134 := n8_
     have NB135_141 := n9_
     have NB141_135 := n10_
     have NB136_141 := n11_
     have NB141_136 := n12_
     have HB := n13_
     clear n0_ n1_ n2_ n3_ n4_ n5_ n6_ n7_ n8_ n9_ n10_ n11_ n12_ n13_
     have hHeld : w44.cell? ⟨gb134, 0, none⟩ = some (.int .i64 a0_0) ∧ w44.cell? ⟨gb134, 1, none⟩ = some (.slice A0_1 l0_1.length c0_1) ∧ w44.cell? ⟨gb134, 2, none⟩ = some (.int .i64 a0_2) ∧ w44.cell? ⟨gb134, 3, none⟩ = some (.slice A0_3 l0_3.length c0_3) ∧ w44.cell? ⟨gb135, 0, none⟩ = some (.int .i64 a1_0) ∧ w44.cell? ⟨gb135, 1, none⟩ = some (.slice A1_1 l1_1.length c1_1) ∧ w44.cell? ⟨gb135, 2, none⟩ = some (.int .i64 a1_2) ∧ w44.cell? ⟨gb135, 3, none⟩ = some (.slice A1_3 l1_3.length c1_3) := hS_
     obtain ⟨Ao45, co45, eo45⟩ := Kd.R_slice HO140.out
     (first | subst eo45 | (injection eo45 with f1_ f2_ f3_; have f4_ := f1_.symm; have f5_ := f3_.symm; clear f1_ f2_ f3_; subst f4_; subst f5_))
     refine norm_ (a' := ?_) ?_ ?_
     rotate_left
     ·simp only [putAll, Act.put, qA, qB, qC]
      rfl
     refine one_ (i := 12) (N := none) #[true, true, true, true, true, true, true, true, true, true, true, true, true] rfl rfl (one_of HT_.out (by kernel_rfl)) (by decide) (fun K hK => ?_)
     have hs46 : w44.cell? ⟨gb141, 0, none⟩ = some (.int .i64 0) := (bCe BK141.out 0).trans rfl
     have hfs46 := bFz BK141.out 0
     have hns46_0 := NB134_141.out
     have hns46_1 := NB135_141.out
     have hns46_2 := NB136_141.out
     have hms46_0 := NB141_134.out
     have hms46_1 := NB141_135.out
     have hms46_2 := NB141_136.out
     have hs47 : w44.cell? ⟨gb141, 1, none⟩ = some (.slice none 0 0) := (bCe BK141.out 1).trans rfl
     have hfs47 := bFz BK141.out 1
     have hns47_0 := NB134_141.out
     have hns47_1 := NB135_141.out
     have hns47_2 := NB136_141.out
     have hms47_0 := NB141_134.out
     have hms47_1 := NB141_135.out
     have hms47_2 := NB141_136.out
     have hs48 : w44.cell? ⟨gb141, 2, none⟩ = some (.int .i64 0) := (bCe BK141.out 2).trans rfl
     have hfs48 := bFz BK141.out 2
     have hns48_0 := NB134_141.out
     have hns48_1 := NB135_141.out
     have hns48_2 := NB136_141.out
     have hms48_0 := NB141_134.out
     have hms48_1 := NB141_135.out
     have hms48_2 := NB141_136.out
     have hs49 : w44.cell? ⟨gb141, 3, none⟩ = some (.slice none 0 0) := (bCe BK141.out 3).trans rfl
     have hfs49 := bFz BK141.out 3
     have hns49_0 := NB134_141.out
     have hns49_1 := NB135_141.out
     have hns49_2 := NB136_141.out
     have hms49_0 := NB141_134.out
     have hms49_1 := NB141_135.out
     have hms49_2 := NB141_136.out
     refine skip_ (w1 := ?_) (by rfl) rfl ?_ ?_
     rotate_left
     ·go_simp
      rfl
     refine hK.out _ _ ⟨((cell_far (p := ⟨gb141, _, none⟩) NB134_141.out _).trans (((cell_far (p := ⟨gb141, _, none⟩) NB134_141.out _).trans (((cell_far (p := ⟨gb141, _, none⟩) NB134_141.out _).trans (((cell_far (p := ⟨gb141, _, none⟩) NB134_141.out _).trans (hHeld.1)))))))), ((cell_far (p := ⟨gb141, _, none⟩) NB134_141.out _).trans (((cell_far (p := ⟨gb141, _, none⟩) NB134_141.out _).trans (((cell_far (p := ⟨gb141, _, none⟩) NB134_141.out _).trans (((cell_far (p := ⟨gb141, _, none⟩) NB134_141.out _).trans (hHeld.2.1)))))))), ((cell_far (p := ⟨gb141, _, none⟩) NB134_141.out _).trans (((cell_far (p := ⟨gb141, _, none⟩) NB134_141.out _).trans (((cell_far (p := ⟨gb141, _, none⟩) NB134_141.out _).trans (((cell_far (p := ⟨gb141, _, none⟩) NB134_141.out _).trans (hHeld.2.2.1)))))))), ((cell_far (p := ⟨gb141, _, none⟩) NB134_141.out _).trans (((cell_far (p := ⟨gb141, _, none⟩) NB134_141.out _).trans (((cell_far (p := ⟨gb141, _, none⟩) NB134_141.out _).trans (((cell_far (p := ⟨gb141, _, none⟩) NB134_141.out _).trans (hHeld.2.2.2.1)))))))), ((cell_far (p := ⟨gb141, _, none⟩) NB135_141.out _).trans (((cell_far (p := ⟨gb141, _, none⟩) NB135_141.out _).trans (((cell_far (p := ⟨gb141, _, none⟩) NB135_141.out _).trans (((cell_far (p := ⟨gb141, _, none⟩) NB135_141.out _).trans (hHeld.2.2.2.2.1)))))))), ((cell_far (p := ⟨gb141, _, none⟩) NB135_141.out _).trans (((cell_far (p := ⟨gb141, _, none⟩) NB135_141.out _).trans (((cell_far (p := ⟨gb141, _, none⟩) NB135_141.out _).trans (((cell_far (p := ⟨gb141, _, none⟩) NB135_141.out _).trans (hHeld.2.2.2.2.2.1)))))))), ((cell_far (p := ⟨gb141, _, none⟩) NB135_141.out _).trans (((cell_far (p := ⟨gb141, _, none⟩) NB135_141.out _).trans (((cell_far (p := ⟨gb141, _, none⟩) NB135_141.out _).trans (((cell_far (p := ⟨gb141, _, none⟩) NB135_141.out _).trans (hHeld.2.2.2.2.2.2.1)))))))), ((cell_far (p := ⟨gb141, _, none⟩) NB135_141.out _).trans (((cell_far (p := ⟨gb141, _, none⟩) NB135_141.out _).trans (((cell_far (p := ⟨gb141, _, none⟩) NB135_141.out _).trans (((cell_far (p := ⟨gb141, _, none⟩) NB135_141.out _).trans (hHeld.2.2.2.2.2.2.2))))))))⟩ (fun hHeld => ?_)
     clear hK K
     refine done_ (done_of HT_.out (by kernel_rfl)) ?_
     have hnb50 := NB134_141.out
     have hnc50 := NB141_134.out
     have hcz51_0 : w44.cell? ⟨gb134, 0, none⟩ = some (.int .i64 a0_0) := (bCe BK134.out 0).trans rfl
     have hcz51_1 : w44.cell? ⟨gb134, 1, none⟩ = some (.slice A0_1 l0_1.length c0_1) := (bCe BK134.out 1).trans rfl
     have hcz51_2 : w44.cell? ⟨gb134, 2, none⟩ = some (.int .i64 a0_2) := (bCe BK134.out 2).trans rfl
     have hcz51_3 : w44.cell? ⟨gb134, 3, none⟩ = some (.slice A0_3 l0_3.length c0_3) := (bCe BK134.out 3).trans rfl
     have hfz51_0 := bFz BK134.out 0
     have hfz51_1 := bFz BK134.out 1
     have hfz51_2 := bFz BK134.out 2
     have hfz51_3 := bFz BK134.out 3
     try go_wp2
     go_loopg [48] kj2 (fun kq v48 w' => ∃ (x48_2 : Int) (x137000_2 : Int) (x137002_2 : Int) (x142003_2 : List (S71)) (u142003 : Value), v48 = .int .i64 x48_2 ∧ Z0 (rows_Join.l0 kq l0_3 (l0_3.length : Int) x48_2 a1_0 l1_1 a1_2 l1_3 a0_0 t138 (wrap64 (a0_2 + a1_2)) x142003_2 = some (r1, r2, r3, r4, r5)) ∧ Z0 (kq ≤ kj2) ∧ Z0 (Kd.R Kd.string 9 w' w.heap.size (fun _ => True) (.slice Ao45 t138.length co45) t138) ∧ Z0 (Kd.R k71 71 w' w.heap.size (fun _ => True) u142003 x142003_2) ∧ Z0 (w'.heap[gb134]? = some (.cells #[.int .i64 a0_0, (.slice A0_1 l0_1.length c0_1), .int .i64 a0_2, (.slice A0_3 l0_3.length c0_3)] 39 (0, 0))) ∧ Z0 (w'.heap[gb135]? = some (.cells #[.int .i64 a1_0, (.slice A1_1 l1_1.length c1_1), .int .i64 a1_2, (.slice A1_3 l1_3.length c1_3)] 39 (0, 0))) ∧ Z0 (w'.heap[gb136]? = some (.cells #[.int .i64 x137000_2, (.slice none 0 0), .int .i64 x137002_2, (.slice none 0 0)] 39 (0, 0))) ∧ Z0 (w'.heap[gb141]? = some (.cells #[.int .i64 a0_0, (.slice Ao45 t138.length co45), .int .i64 (wrap64 (a0_2 + a1_2)), u142003] 39 (0, 0))) ∧ Z0 (Below w.heap.size w w'))
     case atStart => exact ⟨(0), (0), (0), (([] : List (S71))), (.slice none 0 0), (by first | rfl | (simp; done) | (simp [*]; done)), H', ⟨Nat.le_refl _⟩, ⟨by (with_reducible repeat (first | apply Kd.R_alloc | apply Kd.R_drewN | apply Kd.R_drew)); exact Kd.R_mono (Kd.R_far (p := ⟨gb141, 3, none⟩) (Kd.R_far (p := ⟨gb141, 2, none⟩) (Kd.R_far (p := ⟨gb141, 1, none⟩) (Kd.R_far (p := ⟨gb141, 0, none⟩) (Kd.R_types HO140.out BK141.out (by decide)) (fun _ hk => hk.2) (.int .i64 a0_0)) (fun _ hk => hk.2) (.slice Ao45 t138.length co45)) (fun _ hk => hk.2) (.int .i64 (wrap64 (a0_2 + a1_2)))) (fun _ hk => hk.2) (.slice none 0 0)) (fun _ hk => trivial)⟩, ⟨by first | exact Kd.R_nil _ _ _ _ _ | exact Kd.N_nil _ _ _ _ _ | exact Kd.V_nil _ _ _ _ _ | exact Kd.Q_nil _ _ _ _ _ | exact Kd.S_nil _ _ _ _ _⟩, ⟨by (with_reducible repeat (first | refine bDN ?_ _ | refine bDr ?_ | refine bAl ?_ _)); refine blk_far ?_ NB134_141.out _; (with_reducible repeat (first | refine bDN ?_ _ | refine bDr ?_ | refine bAl ?_ _)); refine blk_far ?_ NB134_141.out _; (with_reducible repeat (first | refine bDN ?_ _ | refine bDr ?_ | refine bAl ?_ _)); refine blk_far ?_ NB134_141.out _; (with_reducible repeat (first | refine bDN ?_ _ | refine bDr ?_ | refine bAl ?_ _)); refine blk_far ?_ NB134_141.out _; (with_reducible repeat (first | refine bDN ?_ _ | refine bDr ?_ | refine bAl ?_ _)); exact BK134.out⟩, ⟨by (with_reducible repeat (first | refine bDN ?_ _ | refine bDr ?_ | refine bAl ?_ _)); refine blk_far ?_ NB135_141.out _; (with_reducible repeat (first | refine bDN ?_ _ | refine bDr ?_ | refine bAl ?_ _)); refine blk_far ?_ NB135_141.out _; (with_reducible repeat (first | refine bDN ?_ _ | refine bDr ?_ | refine bAl ?_ _)); refine blk_far ?_ NB135_141.out _; (with_reducible repeat (first | refine bDN ?_ _ | refine bDr ?_ | refine bAl ?_ _)); refine blk_far ?_ NB135_141.out _; (with_reducible repeat (first | refine bDN ?_ _ | refine bDr ?_ | refine bAl ?_ _)); exact BK135.out⟩, ⟨by (with_reducible repeat (first | refine bDN ?_ _ | refine bDr ?_ | refine bAl ?_ _)); refine blk_far ?_ NB136_141.out _; (with_reducible repeat (first | refine bDN ?_ _ | refine bDr ?_ | refine bAl ?_ _)); refine blk_far ?_ NB136_141.out _; (with_reducible repeat (first | refine bDN ?_ _ | refine bDr ?_ | refine bAl ?_ _)); refine blk_far ?_ NB136_141.out _; (with_reducible repeat (first | refine bDN ?_ _ | refine bDr ?_ | refine bAl ?_ _)); refine blk_far ?_ NB136_141.out _; (with_reducible repeat (first | refine bDN ?_ _ | refine bDr ?_ | refine bAl ?_ _)); exact BK136.out⟩, ⟨by (with_reducible repeat (first | refine bDN ?_ _ | refine bDr ?_ | refine bAl ?_ _)); refine blk_put (cs := #[.int .i64 a0_0, .slice Ao45 t138.length co45, .int .i64 (wrap64 (a0_2 + a1_2)), .slice none 0 0]) ?_ 3 _ rfl; (with_reducible repeat (first | refine bDN ?_ _ | refine bDr ?_ | refine bAl ?_ _)); refine blk_put (cs := #[.int .i64 a0_0, .slice Ao45 t138.length co45, .int .i64 0, .slice none 0 0]) ?_ 2 _ rfl; (with_reducible repeat (first | refine bDN ?_ _ | refine bDr ?_ | refine bAl ?_ _)); refine blk_put (cs := #[.int .i64 a0_0, .slice none 0 0, .int .i64 0, .slice none 0 0]) ?_ 1 _ rfl; (with_reducible repeat (first | refine bDN ?_ _ | refine bDr ?_ | refine bAl ?_ _)); refine blk_put (cs := #[.int .i64 0, .slice none 0 0, .int .i64 0, .slice none 0 0]) ?_ 0 _ rfl; (with_reducible repeat (first | refine bDN ?_ _ | refine bDr ?_ | refine bAl ?_ _)); exact BK141.out⟩, ⟨by repeat (first | (with_reducible first | exact HB.out | apply beA | apply bpN | apply bd1 | refine beS ?_ GE134.out | refine beS ?_ GE135.out | refine beS ?_ GE136.out | refine beS ?_ GE141.out) | exact HB.out)⟩⟩
     case round =>
      clear H'
      try clear c1
      try clear c2
      try clear p2
      try clear c3
      try clear c4
      try clear c5
      try clear p6
      try clear c8
      try clear c8b0
      try clear c8b1
      try clear c9
      try clear c10
      try clear c12
      try clear c17
      try clear c18
      try clear c19
      try clear c20
      try clear c23
      try clear c24
      try clear c25
      try clear c27
      try clear c27b0
      try clear c28
      try clear c29
      try clear c31
      try clear c35
      try clear c36
      try clear c38
      try clear c42
      try clear c50
      try clear hcz11_0
      try clear hcz11_1
      try clear hcz11_2
      try clear hcz11_3
      try clear hcz13_0
      try clear hcz13_1
      try clear hcz13_2
      try clear hcz13_3
      try clear hcz15_0
      try clear hcz15_1
      try clear hcz15_2
      try clear hcz15_3
      try clear hcz16_0
      try clear hcz16_1
      try clear hcz16_2
      try clear hcz16_3
      try clear hcz19_0
      try clear hcz19_1
      try clear hcz19_2
      try clear hcz19_3
      try clear hcz21_0
      try clear hcz21_1
      try clear hcz21_2
      try clear hcz21_3
      try clear hcz26_0
      try clear hcz26_1
      try clear hcz26_2
      try clear hcz26_3
      try clear hcz30_0
      try clear hcz30_1
      try clear hcz30_2
      try clear hcz30_3
      try clear hcz32_0
      try clear hcz32_1
      try clear hcz32_2
      try clear hcz32_3
      try clear hcz33_0
      try clear hcz33_1
      try clear hcz33_2
      try clear hcz33_3
      try clear hcz37_0
      try clear hcz37_1
      try clear hcz37_2
      try clear hcz37_3
      try clear hcz39_0
      try clear hcz39_1
      try clear hcz39_2
      try clear hcz39_3
      try clear hcz51_0
      try clear hcz51_1
      try clear hcz51_2
      try clear hcz51_3
      try clear hfz11_0
      try clear hfz11_1
      try clear hfz11_2
      try clear hfz11_3
      try clear hfz13_0
      try clear hfz13_1
      try clear hfz13_2
      try clear hfz13_3
      try clear hfz15_0
      try clear hfz15_1
      try clear hfz15_2
      try clear hfz15_3
      try clear hfz16_0
      try clear hfz16_1
      try clear hfz16_2
      try clear hfz16_3
      try clear hfz19_0
      try clear hfz19_1
      try clear hfz19_2
      try clear hfz19_3
      try clear hfz21_0
      try clear hfz21_1
      try clear hfz21_2
      try clear hfz21_3
      try clear hfz26_0
      try clear hfz26_1
      try clear hfz26_2
      try clear hfz26_3
      try clear hfz30_0
      try clear hfz30_1
      try clear hfz30_2
      try clear hfz30_3
      try clear hfz32_0
      try clear hfz32_1
      try clear hfz32_2
      try clear hfz32_3
      try clear hfz33_0
      try clear hfz33_1
      try clear hfz33_2
      try clear hfz33_3
      try clear hfz37_0
      try clear hfz37_1
      try clear hfz37_2
      try clear hfz37_3
      try clear hfz39_0
      try clear hfz39_1
      try clear hfz39_2
      try clear hfz39_3
      try clear hfz51_0
      try clear hfz51_1
      try clear hfz51_2
      try clear hfz51_3
      try clear p2
      obtain ⟨x48_2, x137000_2, x137002_2, x142003_2, u142003, rfl, HA, HK2, HO_142001, HO_142003, BK134, BK135, BK136, BK141, HB⟩ := hrel
      cases gk with
      | zero => exact absurd HA.out (by simp [rows_Join.l0])
      | succ k2 =>
       have H := HA.out
       clear HA
       simp only [rows_Join.l0] at H
       by_cases c52 : x48_2 < (l0_3.length : Int)
       ·rw [if_pos c52] at H
        have c52b0 : decide (x48_2 < (l0_3.length : Int)) = true := decide_eq_true c52
        clear c52
        by_cases c53 : 0 ≤ x48_2
        ·rw [if_pos c53] at H
         have c53b0 : decide (0 ≤ x48_2) = true := decide_eq_true c53
         clear c53
         by_cases c54 : x48_2 < (l0_3.length : Int)
         ·rw [if_pos c54] at H
          have c54b0 : decide (x48_2 < (l0_3.length : Int)) = true := decide_eq_true c54
          clear c54
          by_cases c55 : x48_2 < (l1_3.length : Int)
          ·rw [if_pos c55] at H
           have c55b0 : decide (x48_2 < (l1_3.length : Int)) = true := decide_eq_true c55
           clear c55
           replace H := Option.bind_eq_some_iff.mp H
           obtain ⟨⟨t145, t146, t147, t148⟩, A560, H⟩ := H
           replace H : (if t148 = 0 then (if x142003_2.length < 5864062014805 then (rows_Join.l0 k2 l0_3 (l0_3.length : Int) (wrap64 (x48_2 + 1)) a1_0 l1_1 a1_2 l1_3 a0_0 t138 (wrap64 (a0_2 + a1_2)) (x142003_2 ++ [(⟨t145, t146, t147⟩ : S71)])) else (none)) else (some (0, ([] : List ByteArray), 0, ([] : List (S71)), 121))) = some (r1, r2, r3, r4, r5) := H
           have A56 := Z0.mk A560
           clear A560
           by_cases c57 : t148 = 0
           ·rw [if_pos c57] at H
            have c57b0 : (t148 == 0) = true := beq_iff_eq.mpr c57
            have c57b1 : (t148 != 0) = false := bne_eq_false_iff_eq.mpr c57
            clear c57
            by_cases c58 : x142003_2.length < 5864062014805
            ·rw [if_pos c58] at H
             have LMc58 := Z0.mk c58
             clear c58
             obtain ⟨y150, hy150⟩ : ∃ y_ : List (S71), y_ = (x142003_2 ++ [(⟨t145, t146, t147⟩ : S71)]) := ⟨_, rfl⟩
             replace H : (rows_Join.l0 k2 l0_3 (l0_3.length : Int) (wrap64 (x48_2 + 1)) a1_0 l1_1 a1_2 l1_3 a0_0 t138 (wrap64 (a0_2 + a1_2)) y150) = some (r1, r2, r3, r4, r5) := by first | (rw [hy150]; with_reducible exact H) | (have H2_ := (Option.bind_some _ _).symm.trans H; rw [hy150]; with_reducible exact H2_) | (have H2_ := (Option.bind_some _ _).symm.trans H; with_reducible exact H2_) | with_reducible exact H | (rw [hy150]; exact H) | exact H
             have Ny150 := Z0.mk hy150
             clear hy150
             have H' := Z0.mk H
             clear H
             have p142 : 0 ≤ (x48_2 : Int) := of_decide_eq_true (by first | (with_reducible assumption) | assumption)
             have q142 : x48_2 < (l0_3.length : Int) := of_decide_eq_true (by first | (with_reducible assumption) | assumption)
             obtain ⟨ad142, e142, hx142_0, hx142_1, hx142_2⟩ := at_T71 HR0_3.out x48_2 p142 q142
             cases e142
             replace hx142_0 := (HB.out.cell (World.block_lt_of_cell? w _ hx142_0)).trans hx142_0
             replace hx142_1 := (HB.out.cell (World.block_lt_of_cell? w _ hx142_1)).trans hx142_1
             replace hx142_2 := (HB.out.cell (World.block_lt_of_cell? w _ hx142_2)).trans hx142_2
             replace p142 := eq_true p142
             replace q142 := eq_true q142
             try go_wp2_with (first | ((with_reducible refine gate_dst (N := 8) rfl ?_); (try (refine gate_guard (by rfl) ?_; dsimp only)); refine box_event ?hg (N := 8) ?hd (cs := #[.int .i64 0, .int .i64 0, .int .i64 0]) (t := 71) ?hr ?_; (case hd => rfl); (case hg => rfl); (case hr => first | (go_simp; done) | (go_simp; rfl)); intro gb143 hg w59 hbox hb; have n0_ := Z0.mk (Kd.R_below (by (with_reducible repeat (first | apply Kd.R_alloc | apply Kd.R_drewN | apply Kd.R_drew)); exact HO_142001.out) hb); have n1_ := Z0.mk (Kd.R_below (Kd.R_elderB (by (with_reducible repeat (first | apply Kd.R_alloc | apply Kd.R_drewN | apply Kd.R_drew)); exact HO_142003.out) gb143 (Nat.le_of_eq hg.symm)) hb); have n2_ := Z0.mk (blk_below (g := gb134) (o := .cells #[.int .i64 a0_0, .slice A0_1 l0_1.length c0_1, .int .i64 a0_2, .slice (some ad142) l0_3.length c0_3] 39 (0, 0)) (by (with_reducible repeat (first | refine bDN ?_ _ | refine bDr ?_ | refine bAl ?_ _)); exact BK134.out) hb); have n3_ := Z0.mk (blk_below (g := gb135) (o := .cells #[.int .i64 a1_0, .slice A1_1 l1_1.length c1_1, .int .i64 a1_2, .slice A1_3 l1_3.length c1_3] 39 (0, 0)) (by (with_reducible repeat (first | refine bDN ?_ _ | refine bDr ?_ | refine bAl ?_ _)); exact BK135.out) hb); have n4_ := Z0.mk (blk_below (g := gb136) (o := .cells #[.int .i64 x137000_2, .slice none 0 0, .int .i64 x137002_2, .slice none 0 0] 39 (0, 0)) (by (with_reducible repeat (first | refine bDN ?_ _ | refine bDr ?_ | refine bAl ?_ _)); exact BK136.out) hb); have n5_ := Z0.mk (blk_below (g := gb141) (o := .cells #[.int .i64 a0_0, .slice Ao45 t138.length co45, .int .i64 (wrap64 (a0_2 + a1_2)), u142003] 39 (0, 0)) (by (with_reducible repeat (first | refine bDN ?_ _ | refine bDr ?_ | refine bAl ?_ _)); exact BK141.out) hb); have n6_ := Z0.mk (below_step (by repeat (first | (with_reducible first | exact HB.out | apply beA | apply bpN | apply bd1 | refine beS ?_ GE134.out | refine beS ?_ GE135.out | refine beS ?_ GE136.out | refine beS ?_ GE141.out) | exact HB.out)) hb); have n7_ := Z0.mk (hbox); have n8_ := Z0.mk ((by rw [hg]; exact (below_size (by repeat (first | (with_reducible first | exact HB.out | apply beA | apply bpN | apply bd1 | refine beS ?_ GE134.out | refine beS ?_ GE135.out | refine beS ?_ GE136.out | refine beS ?_ GE141.out) | exact HB.out))) : w.heap.size ≤ gb143)); have n9_ := Z0.mk ((by rw [hg]; exact (below_size (by repeat (first | (with_reducible first | exact HB.out | apply beA | apply bpN | apply bd1 | refine beS ?_ GE134.out | refine beS ?_ GE135.out | refine beS ?_ GE136.out | refine beS ?_ GE141.out) | exact HB.out))) : w.heap.size ≤ gb143)); have n10_ := Z0.mk ((by rw [hg]; exact Nat.ne_of_lt (blk_lt (g := gb134) (o := .cells #[.int .i64 a0_0, .slice A0_1 l0_1.length c0_1, .int .i64 a0_2, .slice (some ad142) l0_3.length c0_3] 39 (0, 0)) (by (with_reducible repeat (first | refine bDN ?_ _ | refine bDr ?_ | refine bAl ?_ _)); exact BK134.out)) : gb134 ≠ gb143)); have n11_ := Z0.mk ((by rw [hg]; exact Nat.ne_of_gt (blk_lt (g := gb134) (o := .cells #[.int .i64 a0_0, .slice A0_1 l0_1.length c0_1, .int .i64 a0_2, .slice (some ad142) l0_3.length c0_3] 39 (0, 0)) (by (with_reducible repeat (first | refine bDN ?_ _ | refine bDr ?_ | refine bAl ?_ _)); exact BK134.out)) : gb143 ≠ gb134)); have n12_ := Z0.mk ((by rw [hg]; exact Nat.ne_of_lt (blk_lt (g := gb135) (o := .cells #[.int .i64 a1_0, .slice A1_1 l1_1.length c1_1, .int .i64 a1_2, .slice A1_3 l1_3.length c1_3] 39 (0, 0)) (by (with_reducible repeat (first | refine bDN ?_ _ | refine bDr ?_ | refine bAl ?_ _)); exact BK135.out)) : gb135 ≠ gb143)); have n13_ := Z0.mk ((by rw [hg]; exact Nat.ne_of_gt (blk_lt (g := gb135) (o := .cells #[.int .i64 a1_0, .slice A1_1 l1_1.length c1_1, .int .i64 a1_2, .slice A1_3 l1_3.length c1_3] 39 (0, 0)) (by (with_reducible repeat (first | refine bDN ?_ _ | refine bDr ?_ | refine bAl ?_ _)); exact BK135.out)) : gb143 ≠ gb135)); have n14_ := Z0.mk ((by rw [hg]; exact Nat.ne_of_lt (blk_lt (g := gb136) (o := .cells #[.int .i64 x137000_2, .slice none 0 0, .int .i64 x137002_2, .slice none 0 0] 39 (0, 0)) (by (with_reducible repeat (first | refine bDN ?_ _ | refine bDr ?_ | refine bAl ?_ _)); exact BK136.out)) : gb136 ≠ gb143)); have n15_ := Z0.mk ((by rw [hg]; exact Nat.ne_of_gt (blk_lt (g := gb136) (o := .cells #[.int .i64 x137000_2, .slice none 0 0, .int .i64 x137002_2, .slice none 0 0] 39 (0, 0)) (by (with_reducible repeat (first | refine bDN ?_ _ | refine bDr ?_ | refine bAl ?_ _)); exact BK136.out)) : gb143 ≠ gb136)); have n16_ := Z0.mk ((by rw [hg]; exact Nat.ne_of_lt (blk_lt (g := gb141) (o := .cells #[.int .i64 a0_0, .slice Ao45 t138.length co45, .int .i64 (wrap64 (a0_2 + a1_2)), u142003] 39 (0, 0)) (by (with_reducible repeat (first | refine bDN ?_ _ | refine bDr ?_ | refine bAl ?_ _)); exact BK141.out)) : gb141 ≠ gb143)); have n17_ := Z0.mk ((by rw [hg]; exact Nat.ne_of_gt (blk_lt (g := gb141) (o := .cells #[.int .i64 a0_0, .slice Ao45 t138.length co45, .int .i64 (wrap64 (a0_2 + a1_2)), u142003] 39 (0, 0)) (by (with_reducible repeat (first | refine bDN ?_ _ | refine bDr ?_ | refine bAl ?_ _)); exact BK141.out)) : gb143 ≠ gb141)); clear HO_142001; clear HO_142003; clear BK134; clear BK135; clear BK136; clear BK141; clear HB; have HO_142001 := n0_; have HO_142003 := n1_; have BK134 := n2_; have BK135 := n3_; have BK136 := n4_; have BK141 := n5_; have HB := n6_; have BK143 := n7_; have GW143 := n8_; have GE143 := n9_; have NB134_143 := n10_; have NB143_134 := n11_; have NB135_143 := n12_; have NB143_135 := n13_; have NB136_143 := n14_; have NB143_136 := n15_; have NB141_143 := n16_; have NB143_141 := n17_; clear n0_ n1_ n2_ n3_ n4_ n5_ n6_ n7_ n8_ n9_ n10_ n11_ n12_ n13_ n14_ n15_ n16_ n17_; clear hb hbox hg; have hnb60 := NB143_134.out; have hnc60 := NB134_143.out; have hnb61 := NB143_135.out; have hnc61 := NB135_143.out; have hnb62 := NB143_136.out; have hnc62 := NB136_143.out; have hnb63 := NB143_141.out; have hnc63 := NB141_143.out; have hcz64_0 : w59.cell? ⟨gb143, 0, none⟩ = some (.int .i64 0) := (bCe BK143.out 0).trans rfl; have hcz64_1 : w59.cell? ⟨gb143, 1, none⟩ = some (.int .i64 0) := (bCe BK143.out 1).trans rfl; have hcz64_2 : w59.cell? ⟨gb143, 2, none⟩ = some (.int .i64 0) := (bCe BK143.out 2).trans rfl; have hfz64_0 := bFz BK143.out 0; have hfz64_1 := bFz BK143.out 1; have hfz64_2 := bFz BK143.out 2))
             have n0_ : Z0 (Kd.R Kd.string 9 (((w59.setCell ⟨gb143, 0, none⟩ (.int .i64 ((rd_T71 l0_3 x48_2).f0))).setCell ⟨gb143, 1, none⟩ (.int .i64 ((rd_T71 l0_3 x48_2).f1))).setCell ⟨gb143, 2, none⟩ (.int .i64 ((rd_T71 l0_3 x48_2).f2))) w.heap.size (fun _ => True) (.slice Ao45 t138.length co45) t138) := ⟨by (with_reducible repeat (first | apply Kd.R_alloc | apply Kd.R_drewN | apply Kd.R_drew)); exact Kd.R_mono (Kd.R_far (p := ⟨gb143, 2, none⟩) (Kd.R_far (p := ⟨gb143, 1, none⟩) (Kd.R_far (p := ⟨gb143, 0, none⟩) (Kd.R_types HO_142001.out BK143.out (by decide)) (fun _ hk => hk.2) (.int .i64 ((rd_T71 l0_3 x48_2).f0))) (fun _ hk => hk.2) (.int .i64 ((rd_T71 l0_3 x48_2).f1))) (fun _ hk => hk.2) (.int .i64 ((rd_T71 l0_3 x48_2).f2))) (fun _ hk => trivial)⟩
             have n1_ : Z0 (Kd.R k71 71 (((w59.setCell ⟨gb143, 0, none⟩ (.int .i64 ((rd_T71 l0_3 x48_2).f0))).setCell ⟨gb143, 1, none⟩ (.int .i64 ((rd_T71 l0_3 x48_2).f1))).setCell ⟨gb143, 2, none⟩ (.int .i64 ((rd_T71 l0_3 x48_2).f2))) w.heap.size (fun k_ => k_ ≠ gb143) u142003 x142003_2) := ⟨by (with_reducible repeat (first | apply Kd.R_alloc | apply Kd.R_drewN | apply Kd.R_drew)); exact Kd.R_mono (Kd.R_far (p := ⟨gb143, 2, none⟩) (Kd.R_far (p := ⟨gb143, 1, none⟩) (Kd.R_far (p := ⟨gb143, 0, none⟩) (Kd.R_mono HO_142003.out (fun k_ hk => (⟨hk, hk.2⟩ : _ ∧ k_ ≠ gb143))) (fun _ hk => hk.2) (.int .i64 ((rd_T71 l0_3 x48_2).f0))) (fun _ hk => hk.2) (.int .i64 ((rd_T71 l0_3 x48_2).f1))) (fun _ hk => hk.2) (.int .i64 ((rd_T71 l0_3 x48_2).f2))) (fun _ hk => hk.1.2)⟩
             have n2_ : Z0 ((((w59.setCell ⟨gb143, 0, none⟩ (.int .i64 ((rd_T71 l0_3 x48_2).f0))).setCell ⟨gb143, 1, none⟩ (.int .i64 ((rd_T71 l0_3 x48_2).f1))).setCell ⟨gb143, 2, none⟩ (.int .i64 ((rd_T71 l0_3 x48_2).f2))).heap[gb134]? = some (.cells #[.int .i64 a0_0, .slice A0_1 l0_1.length c0_1, .int .i64 a0_2, .slice (some ad142) l0_3.length c0_3] 39 (0, 0))) := ⟨by (with_reducible repeat (first | refine bDN ?_ _ | refine bDr ?_ | refine bAl ?_ _)); refine blk_far ?_ NB134_143.out _; (with_reducible repeat (first | refine bDN ?_ _ | refine bDr ?_ | refine bAl ?_ _)); refine blk_far ?_ NB134_143.out _; (with_reducible repeat (first | refine bDN ?_ _ | refine bDr ?_ | refine bAl ?_ _)); refine blk_far ?_ NB134_143.out _; (with_reducible repeat (first | refine bDN ?_ _ | refine bDr ?_ | refine bAl ?_ _)); exact BK134.out⟩
             have n3_ : Z0 ((((w59.setCell ⟨gb143, 0, none⟩ (.int .i64 ((rd_T71 l0_3 x48_2).f0))).setCell ⟨gb143, 1, none⟩ (.int .i64 ((rd_T71 l0_3 x48_2).f1))).setCell ⟨gb143, 2, none⟩ (.int .i64 ((rd_T71 l0_3 x48_2).f2))).heap[gb135]? = some (.cells #[.int .i64 a1_0, .slice A1_1 l1_1.length c1_1, .int .i64 a1_2, .slice A1_3 l1_3.length c1_3] 39 (0, 0))) := ⟨by (with_reducible repeat (first | refine bDN ?_ _ | refine bDr ?_ | refine bAl ?_ _)); refine blk_far ?_ NB135_143.out _; (with_reducible repeat (first | refine bDN ?_ _ | refine bDr ?_ | refine bAl ?_ _)); refine blk_far ?_ NB135_143.out _; (with_reducible repeat (first | refine bDN ?_ _ | refine bDr ?_ | refine bAl ?_ _)); refine blk_far ?_ NB135_143.out _; (with_reducible repeat (first | refine bDN ?_ _ | refine bDr ?_ | refine bAl ?_ _)); exact BK135.out⟩
             have n4_ : Z0 ((((w59.setCell ⟨gb143, 0, none⟩ (.int .i64 ((rd_T71 l0_3 x48_2).f0))).setCell ⟨gb143, 1, none⟩ (.int .i64 ((rd_T71 l0_3 x48_2).f1))).setCell ⟨gb143, 2, none⟩ (.int .i64 ((rd_T71 l0_3 x48_2).f2))).heap[gb136]? = some (.cells #[.int .i64 x137000_2, .slice none 0 0, .int .i64 x137002_2, .slice none 0 0] 39 (0, 0))) := ⟨by (with_reducible repeat (first | refine bDN ?_ _ | refine bDr ?_ | refine bAl ?_ _)); refine blk_far ?_ NB136_143.out _; (with_reducible repeat (first | refine bDN ?_ _ | refine bDr ?_ | refine bAl ?_ _)); refine blk_far ?_ NB136_143.out _; (with_reducible repeat (first | refine bDN ?_ _ | refine bDr ?_ | refine bAl ?_ _)); refine blk_far ?_ NB136_143.out _; (with_reducible repeat (first | refine bDN ?_ _ | refine bDr ?_ | refine bAl ?_ _)); exact BK136.out⟩
             have n5_ : Z0 ((((w59.setCell ⟨gb143, 0, none⟩ (.int .i64 ((rd_T71 l0_3 x48_2).f0))).setCell ⟨gb143, 1, none⟩ (.int .i64 ((rd_T71 l0_3 x48_2).f1))).setCell ⟨gb143, 2, none⟩ (.int .i64 ((rd_T71 l0_3 x48_2).f2))).heap[gb141]? = some (.cells #[.int .i64 a0_0, .slice Ao45 t138.length co45, .int .i64 (wrap64 (a0_2 + a1_2)), u142003] 39 (0, 0))) := ⟨by (with_reducible repeat (first | refine bDN ?_ _ | refine bDr ?_ | refine bAl ?_ _)); refine blk_far ?_ NB141_143.out _; (with_reducible repeat (first | refine bDN ?_ _ | refine bDr ?_ | refine bAl ?_ _)); refine blk_far ?_ NB141_143.out _; (with_reducible repeat (first | refine bDN ?_ _ | refine bDr ?_ | refine bAl ?_ _)); refine blk_far ?_ NB141_143.out _; (with_reducible repeat (first | refine bDN ?_ _ | refine bDr ?_ | refine bAl ?_ _)); exact BK141.out⟩
             have n6_ : Z0 ((((w59.setCell ⟨gb143, 0, none⟩ (.int .i64 ((rd_T71 l0_3 x48_2).f0))).setCell ⟨gb143, 1, none⟩ (.int .i64 ((rd_T71 l0_3 x48_2).f1))).setCell ⟨gb143, 2, none⟩ (.int .i64 ((rd_T71 l0_3 x48_2).f2))).heap[gb143]? = some (.cells #[.int .i64 ((rd_T71 l0_3 x48_2).f0), .int .i64 ((rd_T71 l0_3 x48_2).f1), .int .i64 ((rd_T71 l0_3 x48_2).f2)] 71 (0, 0))) := ⟨by (with_reducible repeat (first | refine bDN ?_ _ | refine bDr ?_ | refine bAl ?_ _)); refine blk_put (cs := #[.int .i64 ((rd_T71 l0_3 x48_2).f0), .int .i64 ((rd_T71 l0_3 x48_2).f1), .int .i64 0]) ?_ 2 _ rfl; (with_reducible repeat (first | refine bDN ?_ _ | refine bDr ?_ | refine bAl ?_ _)); refine blk_put (cs := #[.int .i64 ((rd_T71 l0_3 x48_2).f0), .int .i64 0, .int .i64 0]) ?_ 1 _ rfl; (with_reducible repeat (first | refine bDN ?_ _ | refine bDr ?_ | refine bAl ?_ _)); refine blk_put (cs := #[.int .i64 0, .int .i64 0, .int .i64 0]) ?_ 0 _ rfl; (with_reducible repeat (first | refine bDN ?_ _ | refine bDr ?_ | refine bAl ?_ _)); exact BK143.out⟩
             have n7_ : Z0 (Below w.heap.size w (((w59.setCell ⟨gb143, 0, none⟩ (.int .i64 ((rd_T71 l0_3 x48_2).f0))).setCell ⟨gb143, 1, none⟩ (.int .i64 ((rd_T71 l0_3 x48_2).f1))).setCell ⟨gb143, 2, none⟩ (.int .i64 ((rd_T71 l0_3 x48_2).f2)))) := ⟨by repeat (first | (with_reducible first | exact HB.out | apply beA | apply bpN | apply bd1 | refine beS ?_ GE134.out | refine beS ?_ GE135.out | refine beS ?_ GE136.out | refine beS ?_ GE141.out | refine beS ?_ GE143.out) | exact HB.out)⟩
             (try clear HO_142001)
             (try clear HO_142003)
             (try clear BK134)
             (try clear BK135)
             (try clear BK136)
             (try clear BK141)
             (try clear BK143)
             (try clear HB)
             generalize (((w59.setCell ⟨gb143, 0, none⟩ (.int .i64 ((rd_T71 l0_3 x48_2).f0))).setCell ⟨gb143, 1, none⟩ (.int .i64 ((rd_T71 l0_3 x48_2).f1))).setCell ⟨gb143, 2, none⟩ (.int .i64 ((rd_T71 l0_3 x48_2).f2))) = w65 at n0_ n1_ n2_ n3_ n4_ n5_ n6_ n7_ ⊢
             have HO_142001 := n0_
             have HO_142003 := n1_
             have BK134 := n2_
             have BK135 := n3_
             have BK136 := n4_
             have BK141 := n5_
             have BK143 := n6_
             have HB := n7_
             clear n0_ n1_ n2_ n3_ n4_ n5_ n6_ n7_
             have n0_ := Z0.mk (Kd.R_drew HO_142001.out)
             have n1_ := Z0.mk (Kd.R_drew HO_142003.out)
             have n2_ := Z0.mk (bDr BK134.out)
             have n3_ := Z0.mk (bDr BK135.out)
             have n4_ := Z0.mk (bDr BK136.out)
             have n5_ := Z0.mk (bDr BK141.out)
             have n6_ := Z0.mk (bDr BK143.out)
             have n7_ := Z0.mk (bd1 HB.out)
             clear HO_142001
             clear HO_142003
             clear BK134
             clear BK135
             clear BK136
             clear BK141
             clear BK143
             clear HB
             have HO_142001 := n0_
             have HO_142003 := n1_
             have BK134 := n2_
             have BK135 := n3_
             have BK136 := n4_
             have BK141 := n5_
             have BK143 := n6_
             have HB := n7_
             clear n0_ n1_ n2_ n3_ n4_ n5_ n6_ n7_
             have p144 : 0 ≤ (x48_2 : Int) := of_decide_eq_true (by first | (with_reducible assumption) | assumption)
             have q144 : x48_2 < (l1_3.length : Int) := of_decide_eq_true (by first | (with_reducible assumption) | assumption)
             obtain ⟨ad144, e144, hx144_0, hx144_1, hx144_2⟩ := at_T71 HR1_3.out x48_2 p144 q144
             have hw144_2 := hx144_2
             have hw144_1 := hx144_1
             have hw144_0 := hx144_0
             cases e144
             replace hx144_0 := (HB.out.cell (World.block_lt_of_cell? w _ hx144_0)).trans hx144_0
             replace hx144_1 := (HB.out.cell (World.block_lt_of_cell? w _ hx144_1)).trans hx144_1
             replace hx144_2 := (HB.out.cell (World.block_lt_of_cell? w _ hx144_2)).trans hx144_2
             replace p144 := eq_true p144
             replace q144 := eq_true q144
             refine start_ (n := 13) (S := fun w' => w'.cell? ⟨gb143, 0, none⟩ = some (.int .i64 ((rd_T71 l0_3 x48_2).f0)) ∧ w'.cell? ⟨gb143, 1, none⟩ = some (.int .i64 ((rd_T71 l0_3 x48_2).f1)) ∧ w'.cell? ⟨gb143, 2, none⟩ = some (.int .i64 ((rd_T71 l0_3 x48_2).f2)) ∧ w'.cell? ⟨gb135, 0, none⟩ = some (.int .i64 a1_0) ∧ w'.cell? ⟨gb135, 1, none⟩ = some (.slice A1_1 l1_1.length c1_1) ∧ w'.cell? ⟨gb135, 2, none⟩ = some (.int .i64 a1_2) ∧ w'.cell? ⟨gb135, 3, none⟩ = some (.slice (some ad144) l1_3.length c1_3) ∧ w'.cell? (ad144.add ((x48_2).toNat * 3)) = some (.int .i64 ((rd_T71 l1_3 x48_2).f0)) ∧ w'.cell? ⟨(ad144.add ((x48_2).toNat * 3)).block, (ad144.add ((x48_2).toNat * 3)).off + 1, none⟩ = some (.int .i64 ((rd_T71 l1_3 x48_2).f1)) ∧ w'.cell? ⟨(ad144.add ((x48_2).toNat * 3)).block, (ad144.add ((x48_2).toNat * 3)).off + 2, none⟩ = some (.int .i64 ((rd_T71 l1_3 x48_2).f2))) (ds := []) #[false, false, false, false, false, false, false, false, false, false, false, false, false] (by kernel_rfl) rfl rfl ⟨(bCe BK143.out 0).trans rfl, (bCe BK143.out 1).trans rfl, (bCe BK143.out 2).trans rfl, (bCe BK135.out 0).trans rfl, (bCe BK135.out 1).trans rfl, (bCe BK135.out 2).trans rfl, (bCe BK135.out 3).trans rfl, ((HB.out.cell (World.block_lt_of_cell? w _ hw144_0)).trans hw144_0), ((HB.out.cell (World.block_lt_of_cell? w _ hw144_1)).trans hw144_1), ((HB.out.cell (World.block_lt_of_cell? w _ hw144_2)).trans hw144_2)⟩ (fun hHeld => ?_); refine with_tabW rows_Join.tab9 rows_Join.bits9 (fun HT_ HW_ => ?_)
             generalize w65.drew = w66 at HO_142001 HO_142003 BK134 BK135 BK136 BK141 BK143 HB hx144_0 hx144_1 hx144_2 hHeld ⊢
             refine pure_ (i := 1) (N := some 55) (v := ?_) (a' := ?_) #[false, true, false, false, false, false, false, false, false, false, false, false, false] rfl rfl (any_of HT_.out (by kernel_rfl)) (fun _ _ _ h => h) (Or.inl ⟨by rfl, ?_⟩) ?_ ?_
             rotate_left
             ·intro w'
              go_simp
              with_reducible rfl
             rotate_left
             ·simp only [Act.put, qA, qB, qC, i64_w, i32_w]
              rfl
             refine pure_ (i := 3) (N := some 57) (v := ?_) (a' := ?_) #[false, true, false, true, false, false, false, false, false, false, false, false, false] rfl rfl (any_of HT_.out (by kernel_rfl)) (fun _ _ _ h => h) (Or.inl ⟨by rfl, ?_⟩) ?_ ?_
             rotate_left
             ·intro w'
              go_simp
              with_reducible rfl
             rotate_left
             ·simp only [Act.put, qA, qB, qC, i64_w, i32_w]
              rfl
             refine take_ (i := 0) (N := some 54) (v := ?_) (a' := ?_) #[true, true, false, true, false, false, false, false, false, false, false, false, false] rfl rfl (take_ofW HT_.out HW_.out (by kernel_rfl)) (fun _ _ _ h => h) (Or.inl ⟨by rfl, ?_⟩) hHeld ?_ ?_
             rotate_left
             ·rintro w' ⟨s0, s1, s2, s3, s4, s5, s6, s7, s8, s9⟩
              go_simp
              with_reducible rfl
             rotate_left
             ·simp only [Act.put, qA, qB, qC, i64_w, i32_w]
              rfl
             refine take_ (i := 2) (N := some 56) (v := ?_) (a' := ?_) #[true, true, true, true, false, false, false, false, false, false, false, false, false] rfl rfl (take_ofW HT_.out HW_.out (by kernel_rfl)) (fun _ _ _ h => h) (Or.inl ⟨by rfl, ?_⟩) hHeld ?_ ?_
             rotate_left
             ·rintro w' ⟨s0, s1, s2, s3, s4, s5, s6, s7, s8, s9⟩
              go_simp
              with_reducible rfl
             rotate_left
             ·simp only [Act.put, qA, qB, qC, i64_w, i32_w]
              rfl
             refine pure_ (i := 4) (N := some 58) (v := ?_) (a' := ?_) #[true, true, true, true, true, false, false, false, false, false, false, false, false] rfl rfl (any_of HT_.out (by kernel_rfl)) (fun _ _ _ h => h) (Or.inl ⟨by rfl, ?_⟩) ?_ ?_
             rotate_left
             ·intro w'
              go_simp
              with_reducible rfl
             rotate_left
             ·simp only [Act.put, qA, qB, qC, i64_w, i32_w]
              rfl
             refine take_ (i := 5) (N := some 59) (v := ?_) (a' := ?_) #[true, true, true, true, true, true, false, false, false, false, false, false, false] rfl rfl (take_ofW HT_.out HW_.out (by kernel_rfl)) (fun _ _ _ h => h) (Or.inl ⟨by rfl, ?_⟩) hHeld ?_ ?_
             rotate_left
             ·rintro w' ⟨s0, s1, s2, s3, s4, s5, s6, s7, s8, s9⟩
              go_simp
              with_reducible rfl
             rotate_left
             ·simp only [Act.put, qA, qB, qC, i64_w, i32_w]
              rfl
             refine join_ (σ := Nat) 2 #[true, true, true, true, true, true, true, true, true, true, true, false, false] (fun s_ => [(60, .tuple #[.agg #[.int .i64 t145, .int .i64 t146, .int .i64 t147], .int .i64 t148]), (9, .pointer (some ⟨s_, 0, none⟩)), (53, .tuple #[.agg #[.int .i64 t145, .int .i64 t146, .int .i64 t147], .int .i64 t148]), (61, .agg #[.int .i64 t145, .int .i64 t146, .int .i64 t147]), (62, .int .i64 t148)]) (fun s_ w' => (w'.cell? ⟨gb143, 0, none⟩ = some (.int .i64 ((rd_T71 l0_3 x48_2).f0)) ∧ w'.cell? ⟨gb143, 1, none⟩ = some (.int .i64 ((rd_T71 l0_3 x48_2).f1)) ∧ w'.cell? ⟨gb143, 2, none⟩ = some (.int .i64 ((rd_T71 l0_3 x48_2).f2)) ∧ w'.cell? ⟨gb135, 0, none⟩ = some (.int .i64 a1_0) ∧ w'.cell? ⟨gb135, 1, none⟩ = some (.slice A1_1 l1_1.length c1_1) ∧ w'.cell? ⟨gb135, 2, none⟩ = some (.int .i64 a1_2) ∧ w'.cell? ⟨gb135, 3, none⟩ = some (.slice (some ad144) l1_3.length c1_3) ∧ w'.cell? (ad144.add ((x48_2).toNat * 3)) = some (.int .i64 ((rd_T71 l1_3 x48_2).f0)) ∧ w'.cell? ⟨(ad144.add ((x48_2).toNat * 3)).block, (ad144.add ((x48_2).toNat * 3)).off + 1, none⟩ = some (.int .i64 ((rd_T71 l1_3 x48_2).f1)) ∧ w'.cell? ⟨(ad144.add ((x48_2).toNat * 3)).block, (ad144.add ((x48_2).toNat * 3)).off + 2, none⟩ = some (.int .i64 ((rd_T71 l1_3 x48_2).f2))) ∧ (Kd.R Kd.string 9 w' w.heap.size (fun _ => True) (.slice Ao45 t138.length co45) t138) ∧ (Kd.R k71 71 w' w.heap.size (fun k_ => k_ ≠ gb143 ∧ k_ ≠ s_) u142003 x142003_2) ∧ (w'.heap[gb134]? = some (.cells #[.int .i64 a0_0, .slice A0_1 l0_1.length c0_1, .int .i64 a0_2, .slice (some ad142) l0_3.length c0_3] 39 (0, 0))) ∧ (w'.heap[gb135]? = some (.cells #[.int .i64 a1_0, .slice A1_1 l1_1.length c1_1, .int .i64 a1_2, .slice (some ad144) l1_3.length c1_3] 39 (0, 0))) ∧ (w'.heap[gb136]? = some (.cells #[.int .i64 x137000_2, .slice none 0 0, .int .i64 x137002_2, .slice none 0 0] 39 (0, 0))) ∧ (w'.heap[gb141]? = some (.cells #[.int .i64 a0_0, .slice Ao45 t138.length co45, .int .i64 (wrap64 (a0_2 + a1_2)), u142003] 39 (0, 0))) ∧ (w'.heap[gb143]? = some (.cells #[.int .i64 ((rd_T71 l0_3 x48_2).f0), .int .i64 ((rd_T71 l0_3 x48_2).f1), .int .i64 ((rd_T71 l0_3 x48_2).f2)] 71 (0, 0))) ∧ (w'.heap[s_]? = some (.cells #[.int .i64 0, .int .i64 0, .int .i64 0] 71 (0, 0))) ∧ (w.heap.size ≤ s_) ∧ (w.heap.size ≤ s_) ∧ (gb134 ≠ s_) ∧ (s_ ≠ gb134) ∧ (gb135 ≠ s_) ∧ (s_ ≠ gb135) ∧ (gb136 ≠ s_) ∧ (s_ ≠ gb136) ∧ (gb141 ≠ s_) ∧ (s_ ≠ gb141) ∧ (gb143 ≠ s_) ∧ (s_ ≠ gb143) ∧ (Below w.heap.size w w')) ?_ ?_
             rotate_left
             ·intro hCont
              refine two_ (i := 6) (j := 10) (Ni := some 60) (Nj := some 9) #[true, true, true, true, true, true, true, false, false, false, false, false, false] #[true, true, true, true, true, true, false, false, false, false, true, false, false] rfl rfl rfl rfl (two_of HT_.out (by kernel_rfl)) (by decide) (by decide) (fun K hK => ?_) (fun K hK => ?_)
              ·skip
               refine goes_ Try.func43 (by kernel_rfl) rfl #[.agg #[.int .i64 ((rd_T71 l0_3 x48_2).f0), .int .i64 ((rd_T71 l0_3 x48_2).f1), .int .i64 ((rd_T71 l0_3 x48_2).f2)], .agg #[.int .i64 ((rd_T71 l1_3 x48_2).f0), .int .i64 ((rd_T71 l1_3 x48_2).f1), .int .i64 ((rd_T71 l1_3 x48_2).f2)]] (by rfl) rfl rfl (by (try simp only [List.map_toArray, List.map_cons, List.map_nil]); first | done | rfl | (simp only [List.length_drop, List.length_take]; rfl)) ?_
               with_reducible refine (agg_Join.calls k2 ((rd_T71 l0_3 x48_2).f0) ((rd_T71 l0_3 x48_2).f1) ((rd_T71 l0_3 x48_2).f2) ((rd_T71 l1_3 x48_2).f0) ((rd_T71 l1_3 x48_2).f1) ((rd_T71 l1_3 x48_2).f2) t145 t146 t147 t148 _ A56.out).mono ?_
               rintro e w67 ⟨rfl, hb⟩
               refine ⟨_, rfl, ?_⟩
               have n0_ := Z0.mk (Kd.R_below (by (with_reducible repeat (first | apply Kd.R_alloc | apply Kd.R_drewN | apply Kd.R_drew)); exact HO_142001.out) hb)
               have n1_ := Z0.mk (Kd.R_below (by (with_reducible repeat (first | apply Kd.R_alloc | apply Kd.R_drewN | apply Kd.R_drew)); exact HO_142003.out) hb)
               have n2_ := Z0.mk (blk_below (g := gb134) (o := .cells #[.int .i64 a0_0, .slice A0_1 l0_1.length c0_1, .int .i64 a0_2, .slice (some ad142) l0_3.length c0_3] 39 (0, 0)) (by (with_reducible repeat (first | refine bDN ?_ _ | refine bDr ?_ | refine bAl ?_ _)); exact BK134.out) hb)
               have n3_ := Z0.mk (blk_below (g := gb135) (o := .cells #[.int .i64 a1_0, .slice A1_1 l1_1.length c1_1, .int .i64 a1_2, .slice (some ad144) l1_3.length c1_3] 39 (0, 0)) (by (with_reducible repeat (first | refine bDN ?_ _ | refine bDr ?_ | refine bAl ?_ _)); exact BK135.out) hb)
               have n4_ := Z0.mk (blk_below (g := gb136) (o := .cells #[.int .i64 x137000_2, .slice none 0 0, .int .i64 x137002_2, .slice none 0 0] 39 (0, 0)) (by (with_reducible repeat (first | refine bDN ?_ _ | refine bDr ?_ | refine bAl ?_ _)); exact BK136.out) hb)
               have n5_ := Z0.mk (blk_below (g := gb141) (o := .cells #[.int .i64 a0_0, .slice Ao45 t138.length co45, .int .i64 (wrap64 (a0_2 + a1_2)), u142003] 39 (0, 0)) (by (with_reducible repeat (first | refine bDN ?_ _ | refine bDr ?_ | refine bAl ?_ _)); exact BK141.out) hb)
               have n6_ := Z0.mk (blk_below (g := gb143) (o := .cells #[.int .i64 ((rd_T71 l0_3 x48_2).f0), .int .i64 ((rd_T71 l0_3 x48_2).f1), .int .i64 ((rd_T71 l0_3 x48_2).f2)] 71 (0, 0)) (by (with_reducible repeat (first | refine bDN ?_ _ | refine bDr ?_ | refine bAl ?_ _)); exact BK143.out) hb)
               have n7_ := Z0.mk (below_step (by repeat (first | (with_reducible first | exact HB.out | apply beA | apply bpN | apply bd1 | refine beS ?_ GE134.out | refine beS ?_ GE135.out | refine beS ?_ GE136.out | refine beS ?_ GE141.out | refine beS ?_ GE143.out) | exact HB.out)) hb)
               clear HO_142001
               clear HO_142003
               clear BK134
               clear BK135
               clear BK136
               clear BK141
               clear BK143
               clear HB
               have HO_142001 := n0_
               have HO_142003 := n1_
               have BK134 := n2_
               have BK135 := n3_
               have BK136 := n4_
               have BK141 := n5_
               have BK143 := n6_
               have HB := n7_
               clear n0_ n1_ n2_ n3_ n4_ n5_ n6_ n7_
               (try clear hb)
               (try clear hb2)
               (try clear hk)
               (try clear hi)
               refine hK.out _ _ ⟨(bCe BK143.out 0).trans rfl, (bCe BK143.out 1).trans rfl, (bCe BK143.out 2).trans rfl, (bCe BK135.out 0).trans rfl, (bCe BK135.out 1).trans rfl, (bCe BK135.out 2).trans rfl, (bCe BK135.out 3).trans rfl, ((HB.out.cell (World.block_lt_of_cell? w _ hw144_0)).trans hw144_0), ((HB.out.cell (World.block_lt_of_cell? w _ hw144_1)).trans hw144_1), ((HB.out.cell (World.block_lt_of_cell? w _ hw144_2)).trans hw144_2)⟩ (fun hHeld => ?_)
               clear hK K
               refine norm_ (a' := ?_) ?_ ?_
               rotate_left
               ·show Act.put _ (some 60) _ = _
                simp only [Act.put, qA, qB, qC, i64_w, i32_w]
                rfl
               refine pure_ (i := 7) (N := some 53) (v := ?_) (a' := ?_) #[true, true, true, true, true, true, true, true, false, false, false, false, false] rfl rfl (any_of HT_.out (by kernel_rfl)) (fun _ _ _ h => h) (Or.inl ⟨by rfl, ?_⟩) ?_ ?_
               rotate_left
               ·intro w'
                go_simp
                with_reducible rfl
               rotate_left
               ·simp only [Act.put, qA, qB, qC, i64_w, i32_w]
                rfl
               refine pure_ (i := 8) (N := some 61) (v := ?_) (a' := ?_) #[true, true, true, true, true, true, true, true, true, false, false, false, false] rfl rfl (any_of HT_.out (by kernel_rfl)) (fun _ _ _ h => h) (Or.inl ⟨by rfl, ?_⟩) ?_ ?_
               rotate_left
               ·intro w'
                go_simp
                with_reducible rfl
               rotate_left
               ·simp only [Act.put, qA, qB, qC, i64_w, i32_w]
                rfl
               refine pure_ (i := 9) (N := some 62) (v := ?_) (a' := ?_) #[true, true, true, true, true, true, true, true, true, true, false, false, false] rfl rfl (any_of HT_.out (by kernel_rfl)) (fun _ _ _ h => h) (Or.inl ⟨by rfl, ?_⟩) ?_ ?_
               rotate_left
               ·intro w'
                go_simp
                with_reducible rfl
               rotate_left
               ·simp only [Act.put, qA, qB, qC, i64_w, i32_w]
                rfl
               refine one_ (i := 10) (N := some 9) #[true, true, true, true, true, true, true, true, true, true, true, false, false] rfl rfl (one_of HT_.out (by kernel_rfl)) (by decide) (fun K hK => ?_)
               refine box_step ?hg (N := 9) ?hd (cs := #[.int .i64 0, .int .i64 0, .int .i64 0]) (t := 71) ?hr ?_; (case hd => rfl); (case hg => rfl); (case hr => first | (go_simp; done) | (go_simp; rfl))
               intro gb149 hg w68 hbox hb
               have n0_ := Z0.mk (Kd.R_below (by (with_reducible repeat (first | apply Kd.R_alloc | apply Kd.R_drewN | apply Kd.R_drew)); exact HO_142001.out) hb)
               have n1_ := Z0.mk (Kd.R_below (Kd.R_elderB (by (with_reducible repeat (first | apply Kd.R_alloc | apply Kd.R_drewN | apply Kd.R_drew)); exact HO_142003.out) gb149 (Nat.le_of_eq hg.symm)) hb)
               have n2_ := Z0.mk (blk_below (g := gb134) (o := .cells #[.int .i64 a0_0, .slice A0_1 l0_1.length c0_1, .int .i64 a0_2, .slice (some ad142) l0_3.length c0_3] 39 (0, 0)) (by (with_reducible repeat (first | refine bDN ?_ _ | refine bDr ?_ | refine bAl ?_ _)); exact BK134.out) hb)
               have n3_ := Z0.mk (blk_below (g := gb135) (o := .cells #[.int .i64 a1_0, .slice A1_1 l1_1.length c1_1, .int .i64 a1_2, .slice (some ad144) l1_3.length c1_3] 39 (0, 0)) (by (with_reducible repeat (first | refine bDN ?_ _ | refine bDr ?_ | refine bAl ?_ _)); exact BK135.out) hb)
               have n4_ := Z0.mk (blk_below (g := gb136) (o := .cells #[.int .i64 x137000_2, .slice none 0 0, .int .i64 x137002_2, .slice none 0 0] 39 (0, 0)) (by (with_reducible repeat (first | refine bDN ?_ _ | refine bDr ?_ | refine bAl ?_ _)); exact BK136.out) hb)
               have n5_ := Z0.mk (blk_below (g := gb141) (o := .cells #[.int .i64 a0_0, .slice Ao45 t138.length co45, .int .i64 (wrap64 (a0_2 + a1_2)), u142003] 39 (0, 0)) (by (with_reducible repeat (first | refine bDN ?_ _ | refine bDr ?_ | refine bAl ?_ _)); exact BK141.out) hb)
               have n6_ := Z0.mk (blk_below (g := gb143) (o := .cells #[.int .i64 ((rd_T71 l0_3 x48_2).f0), .int .i64 ((rd_T71 l0_3 x48_2).f1), .int .i64 ((rd_T71 l0_3 x48_2).f2)] 71 (0, 0)) (by (with_reducible repeat (first | refine bDN ?_ _ | refine bDr ?_ | refine bAl ?_ _)); exact BK143.out) hb)
               have n7_ := Z0.mk (below_step (by repeat (first | (with_reducible first | exact HB.out | apply beA | apply bpN | apply bd1 | refine beS ?_ GE134.out | refine beS ?_ GE135.out | refine beS ?_ GE136.out | refine beS ?_ GE141.out | refine beS ?_ GE143.out) | exact HB.out)) hb)
               have n8_ := Z0.mk (hbox)
               have n9_ := Z0.mk ((by rw [hg]; exact (below_size (by repeat (first | (with_reducible first | exact HB.out | apply beA | apply bpN | apply bd1 | refine beS ?_ GE134.out | refine beS ?_ GE135.out | refine beS ?_ GE136.out | refine beS ?_ GE141.out | refine beS ?_ GE143.out) | exact HB.out))) : w.heap.size ≤ gb149))
               have n10_ := Z0.mk ((by rw [hg]; exact (below_size (by repeat (first | (with_reducible first | exact HB.out | apply beA | apply bpN | apply bd1 | refine beS ?_ GE134.out | refine beS ?_ GE135.out | refine beS ?_ GE136.out | refine beS ?_ GE141.out | refine beS ?_ GE143.out) | exact HB.out))) : w.heap.size ≤ gb149))
               have n11_ := Z0.mk ((by rw [hg]; exact Nat.ne_of_lt (blk_lt (g := gb134) (o := .cells #[.int .i64 a0_0, .slice A0_1 l0_1.length c0_1, .int .i64 a0_2, .slice (some ad142) l0_3.length c0_3] 39 (0, 0)) (by (with_reducible repeat (first | refine bDN ?_ _ | refine bDr ?_ | refine bAl ?_ _)); exact BK134.out)) : gb134 ≠ gb149))
               have n12_ := Z0.mk ((by rw [hg]; exact Nat.ne_of_gt (blk_lt (g := gb134) (o := .cells #[.int .i64 a0_0, .slice A0_1 l0_1.length c0_1, .int .i64 a0_2, .slice (some ad142) l0_3.length c0_3] 39 (0, 0)) (by (with_reducible repeat (first | refine bDN ?_ _ | refine bDr ?_ | refine bAl ?_ _)); exact BK134.out)) : gb149 ≠ gb134))
               have n13_ := Z0.mk ((by rw [hg]; exact Nat.ne_of_lt (blk_lt (g := gb135) (o := .cells #[.int .i64 a1_0, .slice A1_1 l1_1.length c1_1, .int .i64 a1_2, .slice (some ad144) l1_3.length c1_3] 39 (0, 0)) (by (with_reducible repeat (first | refine bDN ?_ _ | refine bDr ?_ | refine bAl ?_ _)); exact BK135.out)) : gb135 ≠ gb149))
               have n14_ := Z0.mk ((by rw [hg]; exact Nat.ne_of_gt (blk_lt (g := gb135) (o := .cells #[.int .i64 a1_0, .slice A1_1 l1_1.length c1_1, .int .i64 a1_2, .slice (some ad144) l1_3.length c1_3] 39 (0, 0)) (by (with_reducible repeat (first | refine bDN ?_ _ | refine bDr ?_ | refine bAl ?_ _)); exact BK135.out)) : gb149 ≠ gb135))
               have n15_ := Z0.mk ((by rw [hg]; exact Nat.ne_of_lt (blk_lt (g := gb136) (o := .cells #[.int .i64 x137000_2, .slice none 0 0, .int .i64 x137002_2, .slice none 0 0] 39 (0, 0)) (by (with_reducible repeat (first | refine bDN ?_ _ | refine bDr ?_ | refine bAl ?_ _)); exact BK136.out)) : gb136 ≠ gb149))
               have n16_ := Z0.mk ((by rw [hg]; exact Nat.ne_of_gt (blk_lt (g := gb136) (o := .cells #[.int .i64 x137000_2, .slice none 0 0, .int .i64 x137002_2, .slice none 0 0] 39 (0, 0)) (by (with_reducible repeat (first | refine bDN ?_ _ | refine bDr ?_ | refine bAl ?_ _)); exact BK136.out)) : gb149 ≠ gb136))
               have n17_ := Z0.mk ((by rw [hg]; exact Nat.ne_of_lt (blk_lt (g := gb141) (o := .cells #[.int .i64 a0_0, .slice Ao45 t138.length co45, .int .i64 (wrap64 (a0_2 + a1_2)), u142003] 39 (0, 0)) (by (with_reducible repeat (first | refine bDN ?_ _ | refine bDr ?_ | refine bAl ?_ _)); exact BK141.out)) : gb141 ≠ gb149))
               have n18_ := Z0.mk ((by rw [hg]; exact Nat.ne_of_gt (blk_lt (g := gb141) (o := .cells #[.int .i64 a0_0, .slice Ao45 t138.length co45, .int .i64 (wrap64 (a0_2 + a1_2)), u142003] 39 (0, 0)) (by (with_reducible repeat (first | refine bDN ?_ _ | refine bDr ?_ | refine bAl ?_ _)); exact BK141.out)) : gb149 ≠ gb141))
               have n19_ := Z0.mk ((by rw [hg]; exact Nat.ne_of_lt (blk_lt (g := gb143) (o := .cells #[.int .i64 ((rd_T71 l0_3 x48_2).f0), .int .i64 ((rd_T71 l0_3 x48_2).f1), .int .i64 ((rd_T71 l0_3 x48_2).f2)] 71 (0, 0)) (by (with_reducible repeat (first | refine bDN ?_ _ | refine bDr ?_ | refine bAl ?_ _)); exact BK143.out)) : gb143 ≠ gb149))
               have n20_ := Z0.mk ((by rw [hg]; exact Nat.ne_of_gt (blk_lt (g := gb143) (o := .cells #[.int .i64 ((rd_T71 l0_3 x48_2).f0), .int .i64 ((rd_T71 l0_3 x48_2).f1), .int .i64 ((rd_T71 l0_3 x48_2).f2)] 71 (0, 0)) (by (with_reducible repeat (first | refine bDN ?_ _ | refine bDr ?_ | refine bAl ?_ _)); exact BK143.out)) : gb149 ≠ gb143))
               clear HO_142001
               clear HO_142003
               clear BK134
               clear BK135
               clear BK136
               clear BK141
               clear BK143
               clear HB
               have HO_142001 := n0_
               have HO_142003 := n1_
               have BK134 := n2_
               have BK135 := n3_
               have BK136 := n4_
               have BK141 := n5_
               have BK143 := n6_
               have HB := n7_
               have BK149 := n8_
               have GW149 := n9_
               have GE149 := n10_
               have NB134_149 := n11_
               have NB149_134 := n12_
               have NB135_149 := n13_
               have NB149_135 := n14_
               have NB136_149 := n15_
               have NB149_136 := n16_
               have NB141_149 := n17_
               have NB149_141 := n18_
               have NB143_149 := n19_
               have NB149_143 := n20_
               clear n0_ n1_ n2_ n3_ n4_ n5_ n6_ n7_ n8_ n9_ n10_ n11_ n12_ n13_ n14_ n15_ n16_ n17_ n18_ n19_ n20_
               clear hb hbox hg
               refine hK.out _ _ ⟨(bCe BK143.out 0).trans rfl, (bCe BK143.out 1).trans rfl, (bCe BK143.out 2).trans rfl, (bCe BK135.out 0).trans rfl, (bCe BK135.out 1).trans rfl, (bCe BK135.out 2).trans rfl, (bCe BK135.out 3).trans rfl, ((HB.out.cell (World.block_lt_of_cell? w _ hw144_0)).trans hw144_0), ((HB.out.cell (World.block_lt_of_cell? w _ hw144_1)).trans hw144_1), ((HB.out.cell (World.block_lt_of_cell? w _ hw144_2)).trans hw144_2)⟩ (fun hHeld => ?_)
               clear hK K
               refine norm_ (a' := ?_) ?_ ?_
               rotate_left
               ·show Act.put _ (some 9) _ = _
                simp only [Act.put, qA, qB, qC, i64_w, i32_w]
                rfl
               exact norm_ (by simp only [putAll, Act.put, qA, qB, qC]) (hCont (gb149) _ ⟨hHeld, (by (with_reducible repeat (first | apply Kd.R_alloc | apply Kd.R_drewN | apply Kd.R_drew)); exact HO_142001.out), (by (with_reducible repeat (first | apply Kd.R_alloc | apply Kd.R_drewN | apply Kd.R_drew)); exact HO_142003.out), (by (with_reducible repeat (first | refine bDN ?_ _ | refine bDr ?_ | refine bAl ?_ _)); exact BK134.out), (by (with_reducible repeat (first | refine bDN ?_ _ | refine bDr ?_ | refine bAl ?_ _)); exact BK135.out), (by (with_reducible repeat (first | refine bDN ?_ _ | refine bDr ?_ | refine bAl ?_ _)); exact BK136.out), (by (with_reducible repeat (first | refine bDN ?_ _ | refine bDr ?_ | refine bAl ?_ _)); exact BK141.out), (by (with_reducible repeat (first | refine bDN ?_ _ | refine bDr ?_ | refine bAl ?_ _)); exact BK143.out), (by (with_reducible repeat (first | refine bDN ?_ _ | refine bDr ?_ | refine bAl ?_ _)); exact BK149.out), GW149.out, GE149.out, NB134_149.out, NB149_134.out, NB135_149.out, NB149_135.out, NB136_149.out, NB149_136.out, NB141_149.out, NB149_141.out, NB143_149.out, NB149_143.out, (by repeat (first | (with_reducible first | exact HB.out | apply beA | apply bpN | apply bd1 | refine beS ?_ GE134.out | refine beS ?_ GE135.out | refine beS ?_ GE136.out | refine beS ?_ GE141.out | refine beS ?_ GE143.out | refine beS ?_ GE149.out) | exact HB.out))⟩)
              ·skip
               refine box_step ?hg (N := 9) ?hd (cs := #[.int .i64 0, .int .i64 0, .int .i64 0]) (t := 71) ?hr ?_; (case hd => rfl); (case hg => rfl); (case hr => first | (go_simp; done) | (go_simp; rfl))
               intro gb149 hg w67 hbox hb
               have n0_ := Z0.mk (Kd.R_below (by (with_reducible repeat (first | apply Kd.R_alloc | apply Kd.R_drewN | apply Kd.R_drew)); exact HO_142001.out) hb)
               have n1_ := Z0.mk (Kd.R_below (Kd.R_elderB (by (with_reducible repeat (first | apply Kd.R_alloc | apply Kd.R_drewN | apply Kd.R_drew)); exact HO_142003.out) gb149 (Nat.le_of_eq hg.symm)) hb)
               have n2_ := Z0.mk (blk_below (g := gb134) (o := .cells #[.int .i64 a0_0, .slice A0_1 l0_1.length c0_1, .int .i64 a0_2, .slice (some ad142) l0_3.length c0_3] 39 (0, 0)) (by (with_reducible repeat (first | refine bDN ?_ _ | refine bDr ?_ | refine bAl ?_ _)); exact BK134.out) hb)
               have n3_ := Z0.mk (blk_below (g := gb135) (o := .cells #[.int .i64 a1_0, .slice A1_1 l1_1.length c1_1, .int .i64 a1_2, .slice (some ad144) l1_3.length c1_3] 39 (0, 0)) (by (with_reducible repeat (first | refine bDN ?_ _ | refine bDr ?_ | refine bAl ?_ _)); exact BK135.out) hb)
               have n4_ := Z0.mk (blk_below (g := gb136) (o := .cells #[.int .i64 x137000_2, .slice none 0 0, .int .i64 x137002_2, .slice none 0 0] 39 (0, 0)) (by (with_reducible repeat (first | refine bDN ?_ _ | refine bDr ?_ | refine bAl ?_ _)); exact BK136.out) hb)
               have n5_ := Z0.mk (blk_below (g := gb141) (o := .cells #[.int .i64 a0_0, .slice Ao45 t138.length co45, .int .i64 (wrap64 (a0_2 + a1_2)), u142003] 39 (0, 0)) (by (with_reducible repeat (first | refine bDN ?_ _ | refine bDr ?_ | refine bAl ?_ _)); exact BK141.out) hb)
               have n6_ := Z0.mk (blk_below (g := gb143) (o := .cells #[.int .i64 ((rd_T71 l0_3 x48_2).f0), .int .i64 ((rd_T71 l0_3 x48_2).f1), .int .i64 ((rd_T71 l0_3 x48_2).f2)] 71 (0, 0)) (by (with_reducible repeat (first | refine bDN ?_ _ | refine bDr ?_ | refine bAl ?_ _)); exact BK143.out) hb)
               have n7_ := Z0.mk (below_step (by repeat (first | (with_reducible first | exact HB.out | apply beA | apply bpN | apply bd1 | refine beS ?_ GE134.out | refine beS ?_ GE135.out | refine beS ?_ GE136.out | refine beS ?_ GE141.out | refine beS ?_ GE143.out) | exact HB.out)) hb)
               have n8_ := Z0.mk (hbox)
               have n9_ := Z0.mk ((by rw [hg]; exact (below_size (by repeat (first | (with_reducible first | exact HB.out | apply beA | apply bpN | apply bd1 | refine beS ?_ GE134.out | refine beS ?_ GE135.out | refine beS ?_ GE136.out | refine beS ?_ GE141.out | refine beS ?_ GE143.out) | exact HB.out))) : w.heap.size ≤ gb149))
               have n10_ := Z0.mk ((by rw [hg]; exact (below_size (by repeat (first | (with_reducible first | exact HB.out | apply beA | apply bpN | apply bd1 | refine beS ?_ GE134.out | refine beS ?_ GE135.out | refine beS ?_ GE136.out | refine beS ?_ GE141.out | refine beS ?_ GE143.out) | exact HB.out))) : w.heap.size ≤ gb149))
               have n11_ := Z0.mk ((by rw [hg]; exact Nat.ne_of_lt (blk_lt (g := gb134) (o := .cells #[.int .i64 a0_0, .slice A0_1 l0_1.length c0_1, .int .i64 a0_2, .slice (some ad142) l0_3.length c0_3] 39 (0, 0)) (by (with_reducible repeat (first | refine bDN ?_ _ | refine bDr ?_ | refine bAl ?_ _)); exact BK134.out)) : gb134 ≠ gb149))
               have n12_ := Z0.mk ((by rw [hg]; exact Nat.ne_of_gt (blk_lt (g := gb134) (o := .cells #[.int .i64 a0_0, .slice A0_1 l0_1.length c0_1, .int .i64 a0_2, .slice (some ad142) l0_3.length c0_3] 39 (0, 0)) (by (with_reducible repeat (first | refine bDN ?_ _ | refine bDr ?_ | refine bAl ?_ _)); exact BK134.out)) : gb149 ≠ gb134))
               have n13_ := Z0.mk ((by rw [hg]; exact Nat.ne_of_lt (blk_lt (g := gb135) (o := .cells #[.int .i64 a1_0, .slice A1_1 l1_1.length c1_1, .int .i64 a1_2, .slice (some ad144) l1_3.length c1_3] 39 (0, 0)) (by (with_reducible repeat (first | refine bDN ?_ _ | refine bDr ?_ | refine bAl ?_ _)); exact BK135.out)) : gb135 ≠ gb149))
               have n14_ := Z0.mk ((by rw [hg]; exact Nat.ne_of_gt (blk_lt (g := gb135) (o := .cells #[.int .i64 a1_0, .slice A1_1 l1_1.length c1_1, .int .i64 a1_2, .slice (some ad144) l1_3.length c1_3] 39 (0, 0)) (by (with_reducible repeat (first | refine bDN ?_ _ | refine bDr ?_ | refine bAl ?_ _)); exact BK135.out)) : gb149 ≠ gb135))
               have n15_ := Z0.mk ((by rw [hg]; exact Nat.ne_of_lt (blk_lt (g := gb136) (o := .cells #[.int .i64 x137000_2, .slice none 0 0, .int .i64 x137002_2, .slice none 0 0] 39 (0, 0)) (by (with_reducible repeat (first | refine bDN ?_ _ | refine bDr ?_ | refine bAl ?_ _)); exact BK136.out)) : gb136 ≠ gb149))
               have n16_ := Z0.mk ((by rw [hg]; exact Nat.ne_of_gt (blk_lt (g := gb136) (o := .cells #[.int .i64 x137000_2, .slice none 0 0, .int .i64 x137002_2, .slice none 0 0] 39 (0, 0)) (by (with_reducible repeat (first | refine bDN ?_ _ | refine bDr ?_ | refine bAl ?_ _)); exact BK136.out)) : gb149 ≠ gb136))
               have n17_ := Z0.mk ((by rw [hg]; exact Nat.ne_of_lt (blk_lt (g := gb141) (o := .cells #[.int .i64 a0_0, .slice Ao45 t138.length co45, .int .i64 (wrap64 (a0_2 + a1_2)), u142003] 39 (0, 0)) (by (with_reducible repeat (first | refine bDN ?_ _ | refine bDr ?_ | refine bAl ?_ _)); exact BK141.out)) : gb141 ≠ gb149))
               have n18_ := Z0.mk ((by rw [hg]; exact Nat.ne_of_gt (blk_lt (g := gb141) (o := .cells #[.int .i64 a0_0, .slice Ao45 t138.length co45, .int .i64 (wrap64 (a0_2 + a1_2)), u142003] 39 (0, 0)) (by (with_reducible repeat (first | refine bDN ?_ _ | refine bDr ?_ | refine bAl ?_ _)); exact BK141.out)) : gb149 ≠ gb141))
               have n19_ := Z0.mk ((by rw [hg]; exact Nat.ne_of_lt (blk_lt (g := gb143) (o := .cells #[.int .i64 ((rd_T71 l0_3 x48_2).f0), .int .i64 ((rd_T71 l0_3 x48_2).f1), .int .i64 ((rd_T71 l0_3 x48_2).f2)] 71 (0, 0)) (by (with_reducible repeat (first | refine bDN ?_ _ | refine bDr ?_ | refine bAl ?_ _)); exact BK143.out)) : gb143 ≠ gb149))
               have n20_ := Z0.mk ((by rw [hg]; exact Nat.ne_of_gt (blk_lt (g := gb143) (o := .cells #[.int .i64 ((rd_T71 l0_3 x48_2).f0), .int .i64 ((rd_T71 l0_3 x48_2).f1), .int .i64 ((rd_T71 l0_3 x48_2).f2)] 71 (0, 0)) (by (with_reducible repeat (first | refine bDN ?_ _ | refine bDr ?_ | refine bAl ?_ _)); exact BK143.out)) : gb149 ≠ gb143))
               clear HO_142001
               clear HO_142003
               clear BK134
               clear BK135
               clear BK136
               clear BK141
               clear BK143
               clear HB
               have HO_142001 := n0_
               have HO_142003 := n1_
               have BK134 := n2_
               have BK135 := n3_
               have BK136 := n4_
               have BK141 := n5_
               have BK143 := n6_
               have HB := n7_
               have BK149 := n8_
               have GW149 := n9_
               have GE149 := n10_
               have NB134_149 := n11_
               have NB149_134 := n12_
               have NB135_149 := n13_
               have NB149_135 := n14_
               have NB136_149 := n15_
               have NB149_136 := n16_
               have NB141_149 := n17_
               have NB149_141 := n18_
               have NB143_149 := n19_
               have NB149_143 := n20_
               clear n0_ n1_ n2_ n3_ n4_ n5_ n6_ n7_ n8_ n9_ n10_ n11_ n12_ n13_ n14_ n15_ n16_ n17_ n18_ n19_ n20_
               clear hb hbox hg
               refine hK.out _ _ ⟨(bCe BK143.out 0).trans rfl, (bCe BK143.out 1).trans rfl, (bCe BK143.out 2).trans rfl, (bCe BK135.out 0).trans rfl, (bCe BK135.out 1).trans rfl, (bCe BK135.out 2).trans rfl, (bCe BK135.out 3).trans rfl, ((HB.out.cell (World.block_lt_of_cell? w _ hw144_0)).trans hw144_0), ((HB.out.cell (World.block_lt_of_cell? w _ hw144_1)).trans hw144_1), ((HB.out.cell (World.block_lt_of_cell? w _ hw144_2)).trans hw144_2)⟩ (fun hHeld => ?_)
               clear hK K
               refine norm_ (a' := ?_) ?_ ?_
               rotate_left
               ·show Act.put _ (some 9) _ = _
                simp only [Act.put, qA, qB, qC, i64_w, i32_w]
                rfl
               refine one_ (i := 6) (N := some 60) #[true, true, true, true, true, true, true, false, false, false, true, false, false] rfl rfl (one_of HT_.out (by kernel_rfl)) (by decide) (fun K hK => ?_)
               refine goes_ Try.func43 (by kernel_rfl) rfl #[.agg #[.int .i64 ((rd_T71 l0_3 x48_2).f0), .int .i64 ((rd_T71 l0_3 x48_2).f1), .int .i64 ((rd_T71 l0_3 x48_2).f2)], .agg #[.int .i64 ((rd_T71 l1_3 x48_2).f0), .int .i64 ((rd_T71 l1_3 x48_2).f1), .int .i64 ((rd_T71 l1_3 x48_2).f2)]] (by rfl) rfl rfl (by (try simp only [List.map_toArray, List.map_cons, List.map_nil]); first | done | rfl | (simp only [List.length_drop, List.length_take]; rfl)) ?_
               with_reducible refine (agg_Join.calls k2 ((rd_T71 l0_3 x48_2).f0) ((rd_T71 l0_3 x48_2).f1) ((rd_T71 l0_3 x48_2).f2) ((rd_T71 l1_3 x48_2).f0) ((rd_T71 l1_3 x48_2).f1) ((rd_T71 l1_3 x48_2).f2) t145 t146 t147 t148 _ A56.out).mono ?_
               rintro e w68 ⟨rfl, hb⟩
               refine ⟨_, rfl, ?_⟩
               have n0_ := Z0.mk (Kd.R_below (by (with_reducible repeat (first | apply Kd.R_alloc | apply Kd.R_drewN | apply Kd.R_drew)); exact HO_142001.out) hb)
               have n1_ := Z0.mk (Kd.R_below (by (with_reducible repeat (first | apply Kd.R_alloc | apply Kd.R_drewN | apply Kd.R_drew)); exact HO_142003.out) hb)
               have n2_ := Z0.mk (blk_below (g := gb134) (o := .cells #[.int .i64 a0_0, .slice A0_1 l0_1.length c0_1, .int .i64 a0_2, .slice (some ad142) l0_3.length c0_3] 39 (0, 0)) (by (with_reducible repeat (first | refine bDN ?_ _ | refine bDr ?_ | refine bAl ?_ _)); exact BK134.out) hb)
               have n3_ := Z0.mk (blk_below (g := gb135) (o := .cells #[.int .i64 a1_0, .slice A1_1 l1_1.length c1_1, .int .i64 a1_2, .slice (some ad144) l1_3.length c1_3] 39 (0, 0)) (by (with_reducible repeat (first | refine bDN ?_ _ | refine bDr ?_ | refine bAl ?_ _)); exact BK135.out) hb)
               have n4_ := Z0.mk (blk_below (g := gb136) (o := .cells #[.int .i64 x137000_2, .slice none 0 0, .int .i64 x137002_2, .slice none 0 0] 39 (0, 0)) (by (with_reducible repeat (first | refine bDN ?_ _ | refine bDr ?_ | refine bAl ?_ _)); exact BK136.out) hb)
               have n5_ := Z0.mk (blk_below (g := gb141) (o := .cells #[.int .i64 a0_0, .slice Ao45 t138.length co45, .int .i64 (wrap64 (a0_2 + a1_2)), u142003] 39 (0, 0)) (by (with_reducible repeat (first | refine bDN ?_ _ | refine bDr ?_ | refine bAl ?_ _)); exact BK141.out) hb)
               have n6_ := Z0.mk (blk_below (g := gb143) (o := .cells #[.int .i64 ((rd_T71 l0_3 x48_2).f0), .int .i64 ((rd_T71 l0_3 x48_2).f1), .int .i64 ((rd_T71 l0_3 x48_2).f2)] 71 (0, 0)) (by (with_reducible repeat (first | refine bDN ?_ _ | refine bDr ?_ | refine bAl ?_ _)); exact BK143.out) hb)
               have n7_ := Z0.mk (blk_below (g := gb149) (o := .cells #[.int .i64 0, .int .i64 0, .int .i64 0] 71 (0, 0)) (by (with_reducible repeat (first | refine bDN ?_ _ | refine bDr ?_ | refine bAl ?_ _)); exact BK149.out) hb)
               have n8_ := Z0.mk (below_step (by repeat (first | (with_reducible first | exact HB.out | apply beA | apply bpN | apply bd1 | refine beS ?_ GE134.out | refine beS ?_ GE135.out | refine beS ?_ GE136.out | refine beS ?_ GE141.out | refine beS ?_ GE143.out | refine beS ?_ GE149.out) | exact HB.out)) hb)
               clear HO_142001
               clear HO_142003
               clear BK134
               clear BK135
               clear BK136
               clear BK141
               clear BK143
               clear BK149
               clear HB
               have HO_142001 := n0_
               have HO_142003 := n1_
               have BK134 := n2_
               have BK135 := n3_
               have BK136 := n4_
               have BK141 := n5_
               have BK143 := n6_
               have BK149 := n7_
               have HB := n8_
               clear n0_ n1_ n2_ n3_ n4_ n5_ n6_ n7_ n8_
               (try clear hb)
               (try clear hb2)
               (try clear hk)
               (try clear hi)
               refine hK.out _ _ ⟨(bCe BK143.out 0).trans rfl, (bCe BK143.out 1).trans rfl, (bCe BK143.out 2).trans rfl, (bCe BK135.out 0).trans rfl, (bCe BK135.out 1).trans rfl, (bCe BK135.out 2).trans rfl, (bCe BK135.out 3).trans rfl, ((HB.out.cell (World.block_lt_of_cell? w _ hw144_0)).trans hw144_0), ((HB.out.cell (World.block_lt_of_cell? w _ hw144_1)).trans hw144_1), ((HB.out.cell (World.block_lt_of_cell? w _ hw144_2)).trans hw144_2)⟩ (fun hHeld => ?_)
               clear hK K
               refine norm_ (a' := ?_) ?_ ?_
               rotate_left
               ·show Act.put _ (some 60) _ = _
                simp only [Act.put, qA, qB, qC, i64_w, i32_w]
                rfl
               refine pure_ (i := 7) (N := some 53) (v := ?_) (a' := ?_) #[true, true, true, true, true, true, true, true, false, false, true, false, false] rfl rfl (any_of HT_.out (by kernel_rfl)) (fun _ _ _ h => h) (Or.inl ⟨by rfl, ?_⟩) ?_ ?_
               rotate_left
               ·intro w'
                go_simp
                with_reducible rfl
               rotate_left
               ·simp only [Act.put, qA, qB, qC, i64_w, i32_w]
                rfl
               refine pure_ (i := 8) (N := some 61) (v := ?_) (a' := ?_) #[true, true, true, true, true, true, true, true, true, false, true, false, false] rfl rfl (any_of HT_.out (by kernel_rfl)) (fun _ _ _ h => h) (Or.inl ⟨by rfl, ?_⟩) ?_ ?_
               rotate_left
               ·intro w'
                go_simp
                with_reducible rfl
               rotate_left
               ·simp only [Act.put, qA, qB, qC, i64_w, i32_w]
                rfl
               refine pure_ (i := 9) (N := some 62) (v := ?_) (a' := ?_) #[true, true, true, true, true, true, true, true, true, true, true, false, false] rfl rfl (any_of HT_.out (by kernel_rfl)) (fun _ _ _ h => h) (Or.inl ⟨by rfl, ?_⟩) ?_ ?_
               rotate_left
               ·intro w'
                go_simp
                with_reducible rfl
               rotate_left
               ·simp only [Act.put, qA, qB, qC, i64_w, i32_w]
                rfl
               exact norm_ (by simp only [putAll, Act.put, qA, qB, qC]) (hCont (gb149) _ ⟨hHeld, (by (with_reducible repeat (first | apply Kd.R_alloc | apply Kd.R_drewN | apply Kd.R_drew)); exact HO_142001.out), (by (with_reducible repeat (first | apply Kd.R_alloc | apply Kd.R_drewN | apply Kd.R_drew)); exact HO_142003.out), (by (with_reducible repeat (first | refine bDN ?_ _ | refine bDr ?_ | refine bAl ?_ _)); exact BK134.out), (by (with_reducible repeat (first | refine bDN ?_ _ | refine bDr ?_ | refine bAl ?_ _)); exact BK135.out), (by (with_reducible repeat (first | refine bDN ?_ _ | refine bDr ?_ | refine bAl ?_ _)); exact BK136.out), (by (with_reducible repeat (first | refine bDN ?_ _ | refine bDr ?_ | refine bAl ?_ _)); exact BK141.out), (by (with_reducible repeat (first | refine bDN ?_ _ | refine bDr ?_ | refine bAl ?_ _)); exact BK143.out), (by (with_reducible repeat (first | refine bDN ?_ _ | refine bDr ?_ | refine bAl ?_ _)); exact BK149.out), GW149.out, GE149.out, NB134_149.out, NB149_134.out, NB135_149.out, NB149_135.out, NB136_149.out, NB149_136.out, NB141_149.out, NB149_141.out, NB143_149.out, NB149_143.out, (by repeat (first | (with_reducible first | exact HB.out | apply beA | apply bpN | apply bd1 | refine beS ?_ GE134.out | refine beS ?_ GE135.out | refine beS ?_ GE136.out | refine beS ?_ GE141.out | refine beS ?_ GE143.out | refine beS ?_ GE149.out) | exact HB.out))⟩)
             rintro gb149 w69 ⟨hS_, h0_, h1_, h2_, h3_, h4_, h5_, h6_, h7_, h8_, h9_, h10_, h11_, h12_, h13_, h14_, h15_, h16_, h17_, h18_, h19_, h20_⟩
             have n0_ : Z0 (Kd.R Kd.string 9 w69 w.heap.size (fun _ => True) (.slice Ao45 t138.length co45) t138) := ⟨h0_⟩
             have n1_ : Z0 (Kd.R k71 71 w69 w.heap.size (fun k_ => k_ ≠ gb143 ∧ k_ ≠ gb149) u142003 x142003_2) := ⟨h1_⟩
             have n2_ : Z0 (w69.heap[gb134]? = some (.cells #[.int .i64 a0_0, .slice A0_1 l0_1.length c0_1, .int .i64 a0_2, .slice (some ad142) l0_3.length c0_3] 39 (0, 0))) := ⟨h2_⟩
             have n3_ : Z0 (w69.heap[gb135]? = some (.cells #[.int .i64 a1_0, .slice A1_1 l1_1.length c1_1, .int .i64 a1_2, .slice (some ad144) l1_3.length c1_3] 39 (0, 0))) := ⟨h3_⟩
             have n4_ : Z0 (w69.heap[gb136]? = some (.cells #[.int .i64 x137000_2, .slice none 0 0, .int .i64 x137002_2, .slice none 0 0] 39 (0, 0))) := ⟨h4_⟩
             have n5_ : Z0 (w69.heap[gb141]? = some (.cells #[.int .i64 a0_0, .slice Ao45 t138.length co45, .int .i64 (wrap64 (a0_2 + a1_2)), u142003] 39 (0, 0))) := ⟨h5_⟩
             have n6_ : Z0 (w69.heap[gb143]? = some (.cells #[.int .i64 ((rd_T71 l0_3 x48_2).f0), .int .i64 ((rd_T71 l0_3 x48_2).f1), .int .i64 ((rd_T71 l0_3 x48_2).f2)] 71 (0, 0))) := ⟨h6_⟩
             have n7_ : Z0 (w69.heap[gb149]? = some (.cells #[.int .i64 0, .int .i64 0, .int .i64 0] 71 (0, 0))) := ⟨h7_⟩
             have n8_ : Z0 (w.heap.size ≤ gb149) := ⟨h8_⟩
             have n9_ : Z0 (w.heap.size ≤ gb149) := ⟨h9_⟩
             have n10_ : Z0 (gb134 ≠ gb149) := ⟨h10_⟩
             have n11_ : Z0 (gb149 ≠ gb134) := ⟨h11_⟩
             have n12_ : Z0 (gb135 ≠ gb149) := ⟨h12_⟩
             have n13_ : Z0 (gb149 ≠ gb135) := ⟨h13_⟩
             have n14_ : Z0 (gb136 ≠ gb149) := ⟨h14_⟩
             have n15_ : Z0 (gb149 ≠ gb136) := ⟨h15_⟩
             have n16_ : Z0 (gb141 ≠ gb149) := ⟨h16_⟩
             have n17_ : Z0 (gb149 ≠ gb141) := ⟨h17_⟩
             have n18_ : Z0 (gb143 ≠ gb149) := ⟨h18_⟩
             have n19_ : Z0 (gb149 ≠ gb143) := ⟨h19_⟩
             have n20_ : Z0 (Below w.heap.size w w69) := ⟨h20_⟩
             clear HO_142001
             clear HO_142003
             clear BK134
             clear BK135
             clear BK136
             clear BK141
             clear BK143
             clear HB
             clear h0_ h1_ h2_ h3_ h4_ h5_ h6_ h7_ h8_ h9_ h10_ h11_ h12_ h13_ h14_ h15_ h16_ h17_ h18_ h19_ h20_
             have HO_142001 := n0_
             have HO_142003 := n1_
             have BK134 := n2_
             have BK135 := n3_
             have BK136 := n4_
             have BK141 := n5_
             have BK143 := n6_
             have BK149 := n7_
             have GW149 := n8_
             have GE149 := n9_
             have NB134_149 := n10_
             have NB149_134 := n11_
             have NB135_149 := n12_
             have NB149_135 := n13_
             have NB136_149 := n14_
             have NB149_136 := n15_
             have NB141_149 := n16_
             have NB149_141 := n17_
             have NB143_149 := n18_
             have NB149_143 := n19_
             have HB := n20_
             clear n0_ n1_ n2_ n3_ n4_ n5_ n6_ n7_ n8_ n9_ n10_ n11_ n12_ n13_ n14_ n15_ n16_ n17_ n18_ n19_ n20_
             have hHeld : w69.cell? ⟨gb143, 0, none⟩ = some (.int .i64 ((rd_T71 l0_3 x48_2).f0)) ∧ w69.cell? ⟨gb143, 1, none⟩ = some (.int .i64 ((rd_T71 l0_3 x48_2).f1)) ∧ w69.cell? ⟨gb143, 2, none⟩ = some (.int .i64 ((rd_T71 l0_3 x48_2).f2)) ∧ w69.cell? ⟨gb135, 0, none⟩ = some (.int .i64 a1_0) ∧ w69.cell? ⟨gb135, 1, none⟩ = some (.slice A1_1 l1_1.length c1_1) ∧ w69.cell? ⟨gb135, 2, none⟩ = some (.int .i64 a1_2) ∧ w69.cell? ⟨gb135, 3, none⟩ = some (.slice (some ad144) l1_3.length c1_3) ∧ w69.cell? (ad144.add ((x48_2).toNat * 3)) = some (.int .i64 ((rd_T71 l1_3 x48_2).f0)) ∧ w69.cell? ⟨(ad144.add ((x48_2).toNat * 3)).block, (ad144.add ((x48_2).toNat * 3)).off + 1, none⟩ = some (.int .i64 ((rd_T71 l1_3 x48_2).f1)) ∧ w69.cell? ⟨(ad144.add ((x48_2).toNat * 3)).block, (ad144.add ((x48_2).toNat * 3)).off + 2, none⟩ = some (.int .i64 ((rd_T71 l1_3 x48_2).f2)) := hS_
             refine norm_ (a' := ?_) ?_ ?_
             rotate_left
             ·simp only [putAll, Act.put, qA, qB, qC]
              rfl
             refine one_ (i := 11) (N := none) #[true, true, true, true, true, true, true, true, true, true, true, true, false] rfl rfl (one_of HT_.out (by kernel_rfl)) (by decide) (fun K hK => ?_)
             have hs70 : w69.cell? ⟨gb149, 0, none⟩ = some (.int .i64 0) := (bCe BK149.out 0).trans rfl
             have hfs70 := bFz BK149.out 0
             have hns70_0 := NB134_149.out
             have hns70_1 := NB135_149.out
             have hns70_2 := NB136_149.out
             have hns70_3 := NB141_149.out
             have hns70_4 := NB143_149.out
             have hms70_0 := NB149_134.out
             have hms70_1 := NB149_135.out
             have hms70_2 := NB149_136.out
             have hms70_3 := NB149_141.out
             have hms70_4 := NB149_143.out
             have hs71 : w69.cell? ⟨gb149, 1, none⟩ = some (.int .i64 0) := (bCe BK149.out 1).trans rfl
             have hfs71 := bFz BK149.out 1
             have hns71_0 := NB134_149.out
             have hns71_1 := NB135_149.out
             have hns71_2 := NB136_149.out
             have hns71_3 := NB141_149.out
             have hns71_4 := NB143_149.out
             have hms71_0 := NB149_134.out
             have hms71_1 := NB149_135.out
             have hms71_2 := NB149_136.out
             have hms71_3 := NB149_141.out
             have hms71_4 := NB149_143.out
             have hs72 : w69.cell? ⟨gb149, 2, none⟩ = some (.int .i64 0) := (bCe BK149.out 2).trans rfl
             have hfs72 := bFz BK149.out 2
             have hns72_0 := NB134_149.out
             have hns72_1 := NB135_149.out
             have hns72_2 := NB136_149.out
             have hns72_3 := NB141_149.out
             have hns72_4 := NB143_149.out
             have hms72_0 := NB149_134.out
             have hms72_1 := NB149_135.out
             have hms72_2 := NB149_136.out
             have hms72_3 := NB149_141.out
             have hms72_4 := NB149_143.out
             refine skip_ (w1 := ?_) (by rfl) rfl ?_ ?_
             rotate_left
             ·go_simp
              rfl
             refine hK.out _ _ ⟨((cell_far (p := ⟨gb149, _, none⟩) NB143_149.out _).trans (((cell_far (p := ⟨gb149, _, none⟩) NB143_149.out _).trans (((cell_far (p := ⟨gb149, _, none⟩) NB143_149.out _).trans (hHeld.1)))))), ((cell_far (p := ⟨gb149, _, none⟩) NB143_149.out _).trans (((cell_far (p := ⟨gb149, _, none⟩) NB143_149.out _).trans (((cell_far (p := ⟨gb149, _, none⟩) NB143_149.out _).trans (hHeld.2.1)))))), ((cell_far (p := ⟨gb149, _, none⟩) NB143_149.out _).trans (((cell_far (p := ⟨gb149, _, none⟩) NB143_149.out _).trans (((cell_far (p := ⟨gb149, _, none⟩) NB143_149.out _).trans (hHeld.2.2.1)))))), ((cell_far (p := ⟨gb149, _, none⟩) NB135_149.out _).trans (((cell_far (p := ⟨gb149, _, none⟩) NB135_149.out _).trans (((cell_far (p := ⟨gb149, _, none⟩) NB135_149.out _).trans (hHeld.2.2.2.1)))))), ((cell_far (p := ⟨gb149, _, none⟩) NB135_149.out _).trans (((cell_far (p := ⟨gb149, _, none⟩) NB135_149.out _).trans (((cell_far (p := ⟨gb149, _, none⟩) NB135_149.out _).trans (hHeld.2.2.2.2.1)))))), ((cell_far (p := ⟨gb149, _, none⟩) NB135_149.out _).trans (((cell_far (p := ⟨gb149, _, none⟩) NB135_149.out _).trans (((cell_far (p := ⟨gb149, _, none⟩) NB135_149.out _).trans (hHeld.2.2.2.2.2.1)))))), ((cell_far (p := ⟨gb149, _, none⟩) NB135_149.out _).trans (((cell_far (p := ⟨gb149, _, none⟩) NB135_149.out _).trans (((cell_far (p := ⟨gb149, _, none⟩) NB135_149.out _).trans (hHeld.2.2.2.2.2.2.1)))))), ((cell_far (p := ⟨gb149, _, none⟩) (by first | exact Nat.ne_of_lt (Nat.lt_of_lt_of_le (by have := World.block_lt_of_cell? _ _ hw144_0; first | rwa [add_block] at this | exact this) GW149.out) | (rw [add_block]; exact Nat.ne_of_lt (Nat.lt_of_lt_of_le (by have := World.block_lt_of_cell? _ _ hw144_0; first | rwa [add_block] at this | exact this) GW149.out)) | (show (Addr.add _ _).block ≠ _; rw [add_block]; exact Nat.ne_of_lt (Nat.lt_of_lt_of_le (by have := World.block_lt_of_cell? _ _ hw144_0; first | rwa [add_block] at this | exact this) GW149.out)) | (dsimp only; exact Nat.ne_of_lt (Nat.lt_of_lt_of_le (by have := World.block_lt_of_cell? _ _ hw144_0; first | rwa [add_block] at this | exact this) GW149.out))) _).trans (((cell_far (p := ⟨gb149, _, none⟩) (by first | exact Nat.ne_of_lt (Nat.lt_of_lt_of_le (by have := World.block_lt_of_cell? _ _ hw144_0; first | rwa [add_block] at this | exact this) GW149.out) | (rw [add_block]; exact Nat.ne_of_lt (Nat.lt_of_lt_of_le (by have := World.block_lt_of_cell? _ _ hw144_0; first | rwa [add_block] at this | exact this) GW149.out)) | (show (Addr.add _ _).block ≠ _; rw [add_block]; exact Nat.ne_of_lt (Nat.lt_of_lt_of_le (by have := World.block_lt_of_cell? _ _ hw144_0; first | rwa [add_block] at this | exact this) GW149.out)) | (dsimp only; exact Nat.ne_of_lt (Nat.lt_of_lt_of_le (by have := World.block_lt_of_cell? _ _ hw144_0; first | rwa [add_block] at this | exact this) GW149.out))) _).trans (((cell_far (p := ⟨gb149, _, none⟩) (by first | exact Nat.ne_of_lt (Nat.lt_of_lt_of_le (by have := World.block_lt_of_cell? _ _ hw144_0; first | rwa [add_block] at this | exact this) GW149.out) | (rw [add_block]; exact Nat.ne_of_lt (Nat.lt_of_lt_of_le (by have := World.block_lt_of_cell? _ _ hw144_0; first | rwa [add_block] at this | exact this) GW149.out)) | (show (Addr.add _ _).block ≠ _; rw [add_block]; exact Nat.ne_of_lt (Nat.lt_of_lt_of_le (by have := World.block_lt_of_cell? _ _ hw144_0; first | rwa [add_block] at this | exact this) GW149.out)) | (dsimp only; exact Nat.ne_of_lt (Nat.lt_of_lt_of_le (by have := World.block_lt_of_cell? _ _ hw144_0; first | rwa [add_block] at this | exact this) GW149.out))) _).trans (hHeld.2.2.2.2.2.2.2.1)))))), ((cell_far (p := ⟨gb149, _, none⟩) (by first | exact Nat.ne_of_lt (Nat.lt_of_lt_of_le (by have := World.block_lt_of_cell? _ _ hw144_1; first | rwa [add_block] at this | exact this) GW149.out) | (rw [add_block]; exact Nat.ne_of_lt (Nat.lt_of_lt_of_le (by have := World.block_lt_of_cell? _ _ hw144_1; first | rwa [add_block] at this | exact this) GW149.out)) | (show (Addr.add _ _).block ≠ _; rw [add_block]; exact Nat.ne_of_lt (Nat.lt_of_lt_of_le (by have := World.block_lt_of_cell? _ _ hw144_1; first | rwa [add_block] at this | exact this) GW149.out)) | (dsimp only; exact Nat.ne_of_lt (Nat.lt_of_lt_of_le (by have := World.block_lt_of_cell? _ _ hw144_1; first | rwa [add_block] at this | exact this) GW149.out))) _).trans (((cell_far (p := ⟨gb149, _, none⟩) (by first | exact Nat.ne_of_lt (Nat.lt_of_lt_of_le (by have := World.block_lt_of_cell? _ _ hw144_1; first | rwa [add_block] at this | exact this) GW149.out) | (rw [add_block]; exact Nat.ne_of_lt (Nat.lt_of_lt_of_le (by have := World.block_lt_of_cell? _ _ hw144_1; first | rwa [add_block] at this | exact this) GW149.out)) | (show (Addr.add _ _).block ≠ _; rw [add_block]; exact Nat.ne_of_lt (Nat.lt_of_lt_of_le (by have := World.block_lt_of_cell? _ _ hw144_1; first | rwa [add_block] at this | exact this) GW149.out)) | (dsimp only; exact Nat.ne_of_lt (Nat.lt_of_lt_of_le (by have := World.block_lt_of_cell? _ _ hw144_1; first | rwa [add_block] at this | exact this) GW149.out))) _).trans (((cell_far (p := ⟨gb149, _, none⟩) (by first | exact Nat.ne_of_lt (Nat.lt_of_lt_of_le (by have := World.block_lt_of_cell? _ _ hw144_1; first | rwa [add_block] at this | exact this) GW149.out) | (rw [add_block]; exact Nat.ne_of_lt (Nat.lt_of_lt_of_le (by have := World.block_lt_of_cell? _ _ hw144_1; first | rwa [add_block] at this | exact this) GW149.out)) | (show (Addr.add _ _).block ≠ _; rw [add_block]; exact Nat.ne_of_lt (Nat.lt_of_lt_of_le (by have := World.block_lt_of_cell? _ _ hw144_1; first | rwa [add_block] at this | exact this) GW149.out)) | (dsimp only; exact Nat.ne_of_lt (Nat.lt_of_lt_of_le (by have := World.block_lt_of_cell? _ _ hw144_1; first | rwa [add_block] at this | exact this) GW149.out))) _).trans (hHeld.2.2.2.2.2.2.2.2.1)))))), ((cell_far (p := ⟨gb149, _, none⟩) (by first | exact Nat.ne_of_lt (Nat.lt_of_lt_of_le (by have := World.block_lt_of_cell? _ _ hw144_2; first | rwa [add_block] at this | exact this) GW149.out) | (rw [add_block]; exact Nat.ne_of_lt (Nat.lt_of_lt_of_le (by have := World.block_lt_of_cell? _ _ hw144_2; first | rwa [add_block] at this | exact this) GW149.out)) | (show (Addr.add _ _).block ≠ _; rw [add_block]; exact Nat.ne_of_lt (Nat.lt_of_lt_of_le (by have := World.block_lt_of_cell? _ _ hw144_2; first | rwa [add_block] at this | exact this) GW149.out)) | (dsimp only; exact Nat.ne_of_lt (Nat.lt_of_lt_of_le (by have := World.block_lt_of_cell? _ _ hw144_2; first | rwa [add_block] at this | exact this) GW149.out))) _).trans (((cell_far (p := ⟨gb149, _, none⟩) (by first | exact Nat.ne_of_lt (Nat.lt_of_lt_of_le (by have := World.block_lt_of_cell? _ _ hw144_2; first | rwa [add_block] at this | exact this) GW149.out) | (rw [add_block]; exact Nat.ne_of_lt (Nat.lt_of_lt_of_le (by have := World.block_lt_of_cell? _ _ hw144_2; first | rwa [add_block] at this | exact this) GW149.out)) | (show (Addr.add _ _).block ≠ _; rw [add_block]; exact Nat.ne_of_lt (Nat.lt_of_lt_of_le (by have := World.block_lt_of_cell? _ _ hw144_2; first | rwa [add_block] at this | exact this) GW149.out)) | (dsimp only; exact Nat.ne_of_lt (Nat.lt_of_lt_of_le (by have := World.block_lt_of_cell? _ _ hw144_2; first | rwa [add_block] at this | exact this) GW149.out))) _).trans (((cell_far (p := ⟨gb149, _, none⟩) (by first | exact Nat.ne_of_lt (Nat.lt_of_lt_of_le (by have := World.block_lt_of_cell? _ _ hw144_2; first | rwa [add_block] at this | exact this) GW149.out) | (rw [add_block]; exact Nat.ne_of_lt (Nat.lt_of_lt_of_le (by have := World.block_lt_of_cell? _ _ hw144_2; first | rwa [add_block] at this | exact this) GW149.out)) | (show (Addr.add _ _).block ≠ _; rw [add_block]; exact Nat.ne_of_lt (Nat.lt_of_lt_of_le (by have := World.block_lt_of_cell? _ _ hw144_2; first | rwa [add_block] at this | exact this) GW149.out)) | (dsimp only; exact Nat.ne_of_lt (Nat.lt_of_lt_of_le (by have := World.block_lt_of_cell? _ _ hw144_2; first | rwa [add_block] at this | exact this) GW149.out))) _).trans (hHeld.2.2.2.2.2.2.2.2.2))))))⟩ (fun hHeld => ?_)
             clear hK K
             refine pure_ (i := 12) (N := some 10) (v := ?_) (a' := ?_) #[true, true, true, true, true, true, true, true, true, true, true, true, true] rfl rfl (any_of HT_.out (by kernel_rfl)) (fun _ _ _ h => h) (Or.inl ⟨by rfl, ?_⟩) ?_ ?_
             rotate_left
             ·intro w'
              go_simp
              with_reducible rfl
             rotate_left
             ·simp only [Act.put, qA, qB, qC, i64_w, i32_w]
              rfl
             refine done_ (done_of HT_.out (by kernel_rfl)) ?_
             have hnb73 := NB141_134.out
             have hnc73 := NB134_141.out
             have hnb74 := NB141_135.out
             have hnc74 := NB135_141.out
             have hnb75 := NB141_136.out
             have hnc75 := NB136_141.out
             have hnb76 := NB141_149.out
             have hnc76 := NB149_141.out
             have hcz77_0 : w69.cell? ⟨gb141, 0, none⟩ = some (.int .i64 a0_0) := (bCe BK141.out 0).trans rfl
             have hcz77_1 : w69.cell? ⟨gb141, 1, none⟩ = some (.slice Ao45 t138.length co45) := (bCe BK141.out 1).trans rfl
             have hcz77_2 : w69.cell? ⟨gb141, 2, none⟩ = some (.int .i64 (wrap64 (a0_2 + a1_2))) := (bCe BK141.out 2).trans rfl
             have hcz77_3 : w69.cell? ⟨gb141, 3, none⟩ = some (u142003) := (bCe BK141.out 3).trans rfl
             have hfz77_0 := bFz BK141.out 0
             have hfz77_1 := bFz BK141.out 1
             have hfz77_2 := bFz BK141.out 2
             have hfz77_3 := bFz BK141.out 3
             have hnb78 := NB149_134.out
             have hnc78 := NB134_149.out
             have hnb79 := NB149_135.out
             have hnc79 := NB135_149.out
             have hnb80 := NB149_136.out
             have hnc80 := NB136_149.out
             have hnb81 := NB149_143.out
             have hnc81 := NB143_149.out
             have hcz82_0 : w69.cell? ⟨gb149, 0, none⟩ = some (.int .i64 0) := (bCe BK149.out 0).trans rfl
             have hcz82_1 : w69.cell? ⟨gb149, 1, none⟩ = some (.int .i64 0) := (bCe BK149.out 1).trans rfl
             have hcz82_2 : w69.cell? ⟨gb149, 2, none⟩ = some (.int .i64 0) := (bCe BK149.out 2).trans rfl
             have hfz82_0 := bFz BK149.out 0
             have hfz82_1 := bFz BK149.out 1
             have hfz82_2 := bFz BK149.out 2
             try go_wp2_with (first | ((with_reducible refine gate_builtin (b := .append) (xs := #[.tmp 67, .tmp 69]) rfl ?_); (try (refine gate_guard (by rfl) ?_; dsimp only)); at_builtin; refine Kd.R_append k71 (w0 := w) w.heap.size rfl (.tmp 67) (.tmp 69) 37 71 (.agg #[(.int .i64 0), (.int .i64 0), (.int .i64 0)]) 24 rfl Try.underlying37 info71 rfl (by decide) (by omega) u142003 x142003_2 (⟨t145, t146, t147⟩ : S71) [.int .i64 t145, .int .i64 t146, .int .i64 t147] (fun k_ => k_ ≠ gb143 ∧ k_ ≠ gb149) (fun _ => False) rfl (by first | (go_simp; done) | (go_simp; rfl)) ?aP (fun _ hk => hk.elim) ?aF ?aO ?aB ?aS ?aL ?_; (case aP => exact k71_mkM _ _ _ (⟨t145, t146, t147⟩ : S71)); (case aB => exact (by repeat (first | (with_reducible first | exact HB.out | apply beA | apply bpN | apply bd1 | refine beS ?_ GE134.out | refine beS ?_ GE135.out | refine beS ?_ GE136.out | refine beS ?_ GE141.out | refine beS ?_ GE143.out | refine beS ?_ GE149.out) | exact HB.out))); (case aF => exact (fun k_ hk => ⟨Kd.freshB (g := gb143) (o := .cells #[.int .i64 ((rd_T71 l0_3 x48_2).f0), .int .i64 ((rd_T71 l0_3 x48_2).f1), .int .i64 ((rd_T71 l0_3 x48_2).f2)] 71 (0, 0)) (by (with_reducible repeat (first | refine bDN ?_ _ | refine bDr ?_ | refine bAl ?_ _)); refine blk_far ?_ NB143_149.out _; (with_reducible repeat (first | refine bDN ?_ _ | refine bDr ?_ | refine bAl ?_ _)); refine blk_far ?_ NB143_149.out _; (with_reducible repeat (first | refine bDN ?_ _ | refine bDr ?_ | refine bAl ?_ _)); refine blk_far ?_ NB143_149.out _; (with_reducible repeat (first | refine bDN ?_ _ | refine bDr ?_ | refine bAl ?_ _)); exact BK143.out) k_ hk, Kd.freshB (g := gb149) (o := .cells #[.int .i64 t145, .int .i64 t146, .int .i64 t147] 71 (0, 0)) (by (with_reducible repeat (first | refine bDN ?_ _ | refine bDr ?_ | refine bAl ?_ _)); refine blk_put (cs := #[.int .i64 t145, .int .i64 t146, .int .i64 0]) ?_ 2 _ rfl; (with_reducible repeat (first | refine bDN ?_ _ | refine bDr ?_ | refine bAl ?_ _)); refine blk_put (cs := #[.int .i64 t145, .int .i64 0, .int .i64 0]) ?_ 1 _ rfl; (with_reducible repeat (first | refine bDN ?_ _ | refine bDr ?_ | refine bAl ?_ _)); refine blk_put (cs := #[.int .i64 0, .int .i64 0, .int .i64 0]) ?_ 0 _ rfl; (with_reducible repeat (first | refine bDN ?_ _ | refine bDr ?_ | refine bAl ?_ _)); exact BK149.out) k_ hk⟩)); (case aO => exact (by (with_reducible repeat (first | apply Kd.R_alloc | apply Kd.R_drewN | apply Kd.R_drew)); exact Kd.R_mono (Kd.R_far (p := ⟨gb149, 2, none⟩) (Kd.R_far (p := ⟨gb149, 1, none⟩) (Kd.R_far (p := ⟨gb149, 0, none⟩) (Kd.R_mono HO_142003.out (fun k_ hk => (⟨hk, hk.2⟩ : _ ∧ k_ ≠ gb149))) (fun _ hk => hk.2) (.int .i64 t145)) (fun _ hk => hk.2) (.int .i64 t146)) (fun _ hk => hk.2) (.int .i64 t147)) (fun _ hk => ⟨hk.1.1, hk.1.2⟩))); (case aS => exact (below_size (by repeat (first | (with_reducible first | exact HB.out | apply beA | apply bpN | apply bd1 | refine beS ?_ GE134.out | refine beS ?_ GE135.out | refine beS ?_ GE136.out | refine beS ?_ GE141.out | refine beS ?_ GE143.out | refine beS ?_ GE149.out) | exact HB.out)))); (case aL => have := LMc58.out; omega); intro v151 w83 ho hb hg hat; rw [← Ny150.out] at ho; have n0_ := Z0.mk (Kd.R_over' (by (with_reducible repeat (first | apply Kd.R_alloc | apply Kd.R_drewN | apply Kd.R_drew)); exact (Kd.R_mono (Kd.R_far (p := ⟨gb149, 2, none⟩) (Kd.R_far (p := ⟨gb149, 1, none⟩) (Kd.R_far (p := ⟨gb149, 0, none⟩) (Kd.R_types HO_142001.out BK149.out (by decide)) (fun _ hk => hk.2) (.int .i64 t145)) (fun _ hk => hk.2) (.int .i64 t146)) (fun _ hk => hk.2) (.int .i64 t147)) (fun _ h_ => h_.1))) (Kd.R_typed (by (with_reducible repeat (first | apply Kd.R_alloc | apply Kd.R_drewN | apply Kd.R_drew)); exact (Kd.R_mono (Kd.R_far (p := ⟨gb149, 2, none⟩) (Kd.R_far (p := ⟨gb149, 1, none⟩) (Kd.R_far (p := ⟨gb149, 0, none⟩) (Kd.R_mono HO_142003.out (fun k_ hk => (⟨hk, hk.2⟩ : _ ∧ k_ ≠ gb149))) (fun _ hk => hk.2) (.int .i64 t145)) (fun _ hk => hk.2) (.int .i64 t146)) (fun _ hk => hk.2) (.int .i64 t147)) (fun _ h_ => h_.1)))) (by decide) hg); have n1_ := Z0.mk (blk_grown (g := gb134) (o := .cells #[.int .i64 a0_0, .slice A0_1 l0_1.length c0_1, .int .i64 a0_2, .slice (some ad142) l0_3.length c0_3] 39 (0, 0)) (by (with_reducible repeat (first | refine bDN ?_ _ | refine bDr ?_ | refine bAl ?_ _)); refine blk_far ?_ NB134_149.out _; (with_reducible repeat (first | refine bDN ?_ _ | refine bDr ?_ | refine bAl ?_ _)); refine blk_far ?_ NB134_149.out _; (with_reducible repeat (first | refine bDN ?_ _ | refine bDr ?_ | refine bAl ?_ _)); refine blk_far ?_ NB134_149.out _; (with_reducible repeat (first | refine bDN ?_ _ | refine bDr ?_ | refine bAl ?_ _)); exact BK134.out) hg (Kd.R_ne HO_142003.out BK134.out (by decide))); have n2_ := Z0.mk (blk_grown (g := gb135) (o := .cells #[.int .i64 a1_0, .slice A1_1 l1_1.length c1_1, .int .i64 a1_2, .slice (some ad144) l1_3.length c1_3] 39 (0, 0)) (by (with_reducible repeat (first | refine bDN ?_ _ | refine bDr ?_ | refine bAl ?_ _)); refine blk_far ?_ NB135_149.out _; (with_reducible repeat (first | refine bDN ?_ _ | refine bDr ?_ | refine bAl ?_ _)); refine blk_far ?_ NB135_149.out _; (with_reducible repeat (first | refine bDN ?_ _ | refine bDr ?_ | refine bAl ?_ _)); refine blk_far ?_ NB135_149.out _; (with_reducible repeat (first | refine bDN ?_ _ | refine bDr ?_ | refine bAl ?_ _)); exact BK135.out) hg (Kd.R_ne HO_142003.out BK135.out (by decide))); have n3_ := Z0.mk (blk_grown (g := gb136) (o := .cells #[.int .i64 x137000_2, .slice none 0 0, .int .i64 x137002_2, .slice none 0 0] 39 (0, 0)) (by (with_reducible repeat (first | refine bDN ?_ _ | refine bDr ?_ | refine bAl ?_ _)); refine blk_far ?_ NB136_149.out _; (with_reducible repeat (first | refine bDN ?_ _ | refine bDr ?_ | refine bAl ?_ _)); refine blk_far ?_ NB136_149.out _; (with_reducible repeat (first | refine bDN ?_ _ | refine bDr ?_ | refine bAl ?_ _)); refine blk_far ?_ NB136_149.out _; (with_reducible repeat (first | refine bDN ?_ _ | refine bDr ?_ | refine bAl ?_ _)); exact BK136.out) hg (Kd.R_ne HO_142003.out BK136.out (by decide))); have n4_ := Z0.mk (blk_grown (g := gb141) (o := .cells #[.int .i64 a0_0, .slice Ao45 t138.length co45, .int .i64 (wrap64 (a0_2 + a1_2)), u142003] 39 (0, 0)) (by (with_reducible repeat (first | refine bDN ?_ _ | refine bDr ?_ | refine bAl ?_ _)); refine blk_far ?_ NB141_149.out _; (with_reducible repeat (first | refine bDN ?_ _ | refine bDr ?_ | refine bAl ?_ _)); refine blk_far ?_ NB141_149.out _; (with_reducible repeat (first | refine bDN ?_ _ | refine bDr ?_ | refine bAl ?_ _)); refine blk_far ?_ NB141_149.out _; (with_reducible repeat (first | refine bDN ?_ _ | refine bDr ?_ | refine bAl ?_ _)); exact BK141.out) hg (Kd.R_ne HO_142003.out BK141.out (by decide))); have n5_ := Z0.mk (blk_grown (g := gb143) (o := .cells #[.int .i64 ((rd_T71 l0_3 x48_2).f0), .int .i64 ((rd_T71 l0_3 x48_2).f1), .int .i64 ((rd_T71 l0_3 x48_2).f2)] 71 (0, 0)) (by (with_reducible repeat (first | refine bDN ?_ _ | refine bDr ?_ | refine bAl ?_ _)); refine blk_far ?_ NB143_149.out _; (with_reducible repeat (first | refine bDN ?_ _ | refine bDr ?_ | refine bAl ?_ _)); refine blk_far ?_ NB143_149.out _; (with_reducible repeat (first | refine bDN ?_ _ | refine bDr ?_ | refine bAl ?_ _)); refine blk_far ?_ NB143_149.out _; (with_reducible repeat (first | refine bDN ?_ _ | refine bDr ?_ | refine bAl ?_ _)); exact BK143.out) hg (Kd.R_away HO_142003.out (fun _ hk => hk.1))); have n6_ := Z0.mk (blk_grown (g := gb149) (o := .cells #[.int .i64 t145, .int .i64 t146, .int .i64 t147] 71 (0, 0)) (by (with_reducible repeat (first | refine bDN ?_ _ | refine bDr ?_ | refine bAl ?_ _)); refine blk_put (cs := #[.int .i64 t145, .int .i64 t146, .int .i64 0]) ?_ 2 _ rfl; (with_reducible repeat (first | refine bDN ?_ _ | refine bDr ?_ | refine bAl ?_ _)); refine blk_put (cs := #[.int .i64 t145, .int .i64 0, .int .i64 0]) ?_ 1 _ rfl; (with_reducible repeat (first | refine bDN ?_ _ | refine bDr ?_ | refine bAl ?_ _)); refine blk_put (cs := #[.int .i64 0, .int .i64 0, .int .i64 0]) ?_ 0 _ rfl; (with_reducible repeat (first | refine bDN ?_ _ | refine bDr ?_ | refine bAl ?_ _)); exact BK149.out) hg (Kd.R_away HO_142003.out (fun _ hk => hk.2))); have n7_ := Z0.mk (hb); have n8_ := Z0.mk (ho); clear HO_142001; clear BK134; clear BK135; clear BK136; clear BK141; clear BK143; clear BK149; clear HB; clear HO_142003; have HO_142001 := n0_; have BK134 := n1_; have BK135 := n2_; have BK136 := n3_; have BK141 := n4_; have BK143 := n5_; have BK149 := n6_; have HB := n7_; have HO152 := n8_; clear n0_ n1_ n2_ n3_ n4_ n5_ n6_ n7_ n8_; clear ho hb hg hat; obtain ⟨Ao84, co84, eo84⟩ := Kd.R_slice HO152.out; subst eo84; have hcz85_0 : w83.cell? ⟨gb141, 0, none⟩ = some (.int .i64 a0_0) := (bCe BK141.out 0).trans rfl; have hcz85_1 : w83.cell? ⟨gb141, 1, none⟩ = some (.slice Ao45 t138.length co45) := (bCe BK141.out 1).trans rfl; have hcz85_2 : w83.cell? ⟨gb141, 2, none⟩ = some (.int .i64 (wrap64 (a0_2 + a1_2))) := (bCe BK141.out 2).trans rfl; have hcz85_3 : w83.cell? ⟨gb141, 3, none⟩ = some (u142003) := (bCe BK141.out 3).trans rfl; have hfz85_0 := bFz BK141.out 0; have hfz85_1 := bFz BK141.out 1; have hfz85_2 := bFz BK141.out 2; have hfz85_3 := bFz BK141.out 3))
             go_roundg k2
             case measure => have := HJ2.out; have := HK2.out; omega
             case rel => exact ⟨(wrap64 (x48_2 + 1)), (x137000_2), (x137002_2), (y150), (.slice Ao84 y150.length co84), (by first | rfl | (simp; done) | (simp [*]; done)), H', ⟨by have := HJ2.out; have := HK2.out; omega⟩, ⟨by (with_reducible repeat (first | apply Kd.R_alloc | apply Kd.R_drewN | apply Kd.R_drew)); exact Kd.R_mono (Kd.R_far (p := ⟨gb141, 3, none⟩) (Kd.R_types HO_142001.out BK141.out (by decide)) (fun _ hk => hk.2) (.slice Ao84 y150.length co84)) (fun _ hk => trivial)⟩, ⟨by (with_reducible repeat (first | apply Kd.R_alloc | apply Kd.R_drewN | apply Kd.R_drew)); exact Kd.R_mono (Kd.R_far (p := ⟨gb141, 3, none⟩) (Kd.R_types HO152.out BK141.out (by decide)) (fun _ hk => hk.2) (.slice Ao84 y150.length co84)) (fun _ hk => trivial)⟩, ⟨by (with_reducible repeat (first | refine bDN ?_ _ | refine bDr ?_ | refine bAl ?_ _)); refine blk_far ?_ NB134_141.out _; (with_reducible repeat (first | refine bDN ?_ _ | refine bDr ?_ | refine bAl ?_ _)); exact BK134.out⟩, ⟨by (with_reducible repeat (first | refine bDN ?_ _ | refine bDr ?_ | refine bAl ?_ _)); refine blk_far ?_ NB135_141.out _; (with_reducible repeat (first | refine bDN ?_ _ | refine bDr ?_ | refine bAl ?_ _)); exact BK135.out⟩, ⟨by (with_reducible repeat (first | refine bDN ?_ _ | refine bDr ?_ | refine bAl ?_ _)); refine blk_far ?_ NB136_141.out _; (with_reducible repeat (first | refine bDN ?_ _ | refine bDr ?_ | refine bAl ?_ _)); exact BK136.out⟩, ⟨by (with_reducible repeat (first | refine bDN ?_ _ | refine bDr ?_ | refine bAl ?_ _)); refine blk_put (cs := #[.int .i64 a0_0, .slice Ao45 t138.length co45, .int .i64 (wrap64 (a0_2 + a1_2)), u142003]) ?_ 3 _ rfl; (with_reducible repeat (first | refine bDN ?_ _ | refine bDr ?_ | refine bAl ?_ _)); exact BK141.out⟩, ⟨by repeat (first | (with_reducible first | exact HB.out | apply beA | apply bpN | apply bd1 | refine beS ?_ GE134.out | refine beS ?_ GE135.out | refine beS ?_ GE136.out | refine beS ?_ GE141.out | refine beS ?_ GE143.out | refine beS ?_ GE149.out) | exact HB.out)⟩⟩
            ·rw [if_neg c58] at H
             exact absurd H (by simp)
           ·rw [if_neg c57] at H
            have c57b0 : (t148 == 0) = false := beq_eq_false_iff_ne.mpr c57
            have c57b1 : (t148 != 0) = true := bne_iff_ne.mpr c57
            simp only [Option.some.injEq, Prod.mk.injEq] at H
            obtain ⟨rfl, rfl, rfl, rfl, rfl⟩ := H
            have p142 : 0 ≤ (x48_2 : Int) := of_decide_eq_true (by first | (with_reducible assumption) | assumption)
            have q142 : x48_2 < (l0_3.length : Int) := of_decide_eq_true (by first | (with_reducible assumption) | assumption)
            obtain ⟨ad142, e142, hx142_0, hx142_1, hx142_2⟩ := at_T71 HR0_3.out x48_2 p142 q142
            cases e142
            replace hx142_0 := (HB.out.cell (World.block_lt_of_cell? w _ hx142_0)).trans hx142_0
            replace hx142_1 := (HB.out.cell (World.block_lt_of_cell? w _ hx142_1)).trans hx142_1
            replace hx142_2 := (HB.out.cell (World.block_lt_of_cell? w _ hx142_2)).trans hx142_2
            replace p142 := eq_true p142
            replace q142 := eq_true q142
            try go_wp2_with (first | ((with_reducible refine gate_dst (N := 8) rfl ?_); (try (refine gate_guard (by rfl) ?_; dsimp only)); refine box_event ?hg (N := 8) ?hd (cs := #[.int .i64 0, .int .i64 0, .int .i64 0]) (t := 71) ?hr ?_; (case hd => rfl); (case hg => rfl); (case hr => first | (go_simp; done) | (go_simp; rfl)); intro gb143 hg w86 hbox hb; have n0_ := Z0.mk (Kd.R_below (by (with_reducible repeat (first | apply Kd.R_alloc | apply Kd.R_drewN | apply Kd.R_drew)); exact HO_142001.out) hb); have n1_ := Z0.mk (Kd.R_below (Kd.R_elderB (by (with_reducible repeat (first | apply Kd.R_alloc | apply Kd.R_drewN | apply Kd.R_drew)); exact HO_142003.out) gb143 (Nat.le_of_eq hg.symm)) hb); have n2_ := Z0.mk (blk_below (g := gb134) (o := .cells #[.int .i64 a0_0, .slice A0_1 l0_1.length c0_1, .int .i64 a0_2, .slice (some ad142) l0_3.length c0_3] 39 (0, 0)) (by (with_reducible repeat (first | refine bDN ?_ _ | refine bDr ?_ | refine bAl ?_ _)); exact BK134.out) hb); have n3_ := Z0.mk (blk_below (g := gb135) (o := .cells #[.int .i64 a1_0, .slice A1_1 l1_1.length c1_1, .int .i64 a1_2, .slice A1_3 l1_3.length c1_3] 39 (0, 0)) (by (with_reducible repeat (first | refine bDN ?_ _ | refine bDr ?_ | refine bAl ?_ _)); exact BK135.out) hb); have n4_ := Z0.mk (blk_below (g := gb136) (o := .cells #[.int .i64 x137000_2, .slice none 0 0, .int .i64 x137002_2, .slice none 0 0] 39 (0, 0)) (by (with_reducible repeat (first | refine bDN ?_ _ | refine bDr ?_ | refine bAl ?_ _)); exact BK136.out) hb); have n5_ := Z0.mk (blk_below (g := gb141) (o := .cells #[.int .i64 a0_0, .slice Ao45 t138.length co45, .int .i64 (wrap64 (a0_2 + a1_2)), u142003] 39 (0, 0)) (by (with_reducible repeat (first | refine bDN ?_ _ | refine bDr ?_ | refine bAl ?_ _)); exact BK141.out) hb); have n6_ := Z0.mk (below_step (by repeat (first | (with_reducible first | exact HB.out | apply beA | apply bpN | apply bd1 | refine beS ?_ GE134.out | refine beS ?_ GE135.out | refine beS ?_ GE136.out | refine beS ?_ GE141.out) | exact HB.out)) hb); have n7_ := Z0.mk (hbox); have n8_ := Z0.mk ((by rw [hg]; exact (below_size (by repeat (first | (with_reducible first | exact HB.out | apply beA | apply bpN | apply bd1 | refine beS ?_ GE134.out | refine beS ?_ GE135.out | refine beS ?_ GE136.out | refine beS ?_ GE141.out) | exact HB.out))) : w.heap.size ≤ gb143)); have n9_ := Z0.mk ((by rw [hg]; exact (below_size (by repeat (first | (with_reducible first | exact HB.out | apply beA | apply bpN | apply bd1 | refine beS ?_ GE134.out | refine beS ?_ GE135.out | refine beS ?_ GE136.out | refine beS ?_ GE141.out) | exact HB.out))) : w.heap.size ≤ gb143)); have n10_ := Z0.mk ((by rw [hg]; exact Nat.ne_of_lt (blk_lt (g := gb134) (o := .cells #[.int .i64 a0_0, .slice A0_1 l0_1.length c0_1, .int .i64 a0_2, .slice (some ad142) l0_3.length c0_3] 39 (0, 0)) (by (with_reducible repeat (first | refine bDN ?_ _ | refine bDr ?_ | refine bAl ?_ _)); exact BK134.out)) : gb134 ≠ gb143)); have n11_ := Z0.mk ((by rw [hg]; exact Nat.ne_of_gt (blk_lt (g := gb134) (o := .cells #[.int .i64 a0_0, .slice A0_1 l0_1.length c0_1, .int .i64 a0_2, .slice (some ad142) l0_3.length c0_3] 39 (0, 0)) (by (with_reducible repeat (first | refine bDN ?_ _ | refine bDr ?_ | refine bAl ?_ _)); exact BK134.out)) : gb143 ≠ gb134)); have n12_ := Z0.mk ((by rw [hg]; exact Nat.ne_of_lt (blk_lt (g := gb135) (o := .cells #[.int .i64 a1_0, .slice A1_1 l1_1.length c1_1, .int .i64 a1_2, .slice A1_3 l1_3.length c1_3] 39 (0, 0)) (by (with_reducible repeat (first | refine bDN ?_ _ | refine bDr ?_ | refine bAl ?_ _)); exact BK135.out)) : gb135 ≠ gb143)); have n13_ := Z0.mk ((by rw [hg]; exact Nat.ne_of_gt (blk_lt (g := gb135) (o := .cells #[.int .i64 a1_0, .slice A1_1 l1_1.length c1_1, .int .i64 a1_2, .slice A1_3 l1_3.length c1_3] 39 (0, 0)) (by (with_reducible repeat (first | refine bDN ?_ _ | refine bDr ?_ | refine bAl ?_ _)); exact BK135.out)) : gb143 ≠ gb135)); have n14_ := Z0.mk ((by rw [hg]; exact Nat.ne_of_lt (blk_lt (g := gb136) (o := .cells #[.int .i64 x137000_2, .slice none 0 0, .int .i64 x137002_2, .slice none 0 0] 39 (0, 0)) (by (with_reducible repeat (first | refine bDN ?_ _ | refine bDr ?_ | refine bAl ?_ _)); exact BK136.out)) : gb136 ≠ gb143)); have n15_ := Z0.mk ((by rw [hg]; exact Nat.ne_of_gt (blk_lt (g := gb136) (o := .cells #[.int .i64 x137000_2, .slice none 0 0, .int .i64 x137002_2, .slice none 0 0] 39 (0, 0)) (by (with_reducible repeat (first | refine bDN ?_ _ | refine bDr ?_ | refine bAl ?_ _)); exact BK136.out)) : gb143 ≠ gb136)); have n16_ := Z0.mk ((by rw [hg]; exact Nat.ne_of_lt (blk_lt (g := gb141) (o := .cells #[.int .i64 a0_0, .slice Ao45 t138.length co45, .int .i64 (wrap64 (a0_2 + a1_2)), u142003] 39 (0, 0)) (by (with_reducible repeat (first | refine bDN ?_ _ | refine bDr ?_ | refine bAl ?_ _)); exact BK141.out)) : gb141 ≠ gb143)); have n17_ := Z0.mk ((by rw [hg]; exact Nat.ne_of_gt (blk_lt (g := gb141) (o := .cells #[.int .i64 a0_0, .slice Ao45 t138.length co45, .int .i64 (wrap64 (a0_2 + a1_2)), u142003] 39 (0, 0)) (by (with_reducible repeat (first | refine bDN ?_ _ | refine bDr ?_ | refine bAl ?_ _)); exact BK141.out)) : gb143 ≠ gb141)); clear HO_142001; clear HO_142003; clear BK134; clear BK135; clear BK136; clear BK141; clear HB; have HO_142001 := n0_; have HO_142003 := n1_; have BK134 := n2_; have BK135 := n3_; have BK136 := n4_; have BK141 := n5_; have HB := n6_; have BK143 := n7_; have GW143 := n8_; have GE143 := n9_; have NB134_143 := n10_; have NB143_134 := n11_; have NB135_143 := n12_; have NB143_135 := n13_; have NB136_143 := n14_; have NB143_136 := n15_; have NB141_143 := n16_; have NB143_141 := n17_; clear n0_ n1_ n2_ n3_ n4_ n5_ n6_ n7_ n8_ n9_ n10_ n11_ n12_ n13_ n14_ n15_ n16_ n17_; clear hb hbox hg; have hnb87 := NB143_134.out; have hnc87 := NB134_143.out; have hnb88 := NB143_135.out; have hnc88 := NB135_143.out; have hnb89 := NB143_136.out; have hnc89 := NB136_143.out; have hnb90 := NB143_141.out; have hnc90 := NB141_143.out; have hcz91_0 : w86.cell? ⟨gb143, 0, none⟩ = some (.int .i64 0) := (bCe BK143.out 0).trans rfl; have hcz91_1 : w86.cell? ⟨gb143, 1, none⟩ = some (.int .i64 0) := (bCe BK143.out 1).trans rfl; have hcz91_2 : w86.cell? ⟨gb143, 2, none⟩ = some (.int .i64 0) := (bCe BK143.out 2).trans rfl; have hfz91_0 := bFz BK143.out 0; have hfz91_1 := bFz BK143.out 1; have hfz91_2 := bFz BK143.out 2))
            have n0_ : Z0 (Kd.R Kd.string 9 (((w86.setCell ⟨gb143, 0, none⟩ (.int .i64 ((rd_T71 l0_3 x48_2).f0))).setCell ⟨gb143, 1, none⟩ (.int .i64 ((rd_T71 l0_3 x48_2).f1))).setCell ⟨gb143, 2, none⟩ (.int .i64 ((rd_T71 l0_3 x48_2).f2))) w.heap.size (fun _ => True) (.slice Ao45 t138.length co45) t138) := ⟨by (with_reducible repeat (first | apply Kd.R_alloc | apply Kd.R_drewN | apply Kd.R_drew)); exact Kd.R_mono (Kd.R_far (p := ⟨gb143, 2, none⟩) (Kd.R_far (p := ⟨gb143, 1, none⟩) (Kd.R_far (p := ⟨gb143, 0, none⟩) (Kd.R_types HO_142001.out BK143.out (by decide)) (fun _ hk => hk.2) (.int .i64 ((rd_T71 l0_3 x48_2).f0))) (fun _ hk => hk.2) (.int .i64 ((rd_T71 l0_3 x48_2).f1))) (fun _ hk => hk.2) (.int .i64 ((rd_T71 l0_3 x48_2).f2))) (fun _ hk => trivial)⟩
            have n1_ : Z0 (Kd.R k71 71 (((w86.setCell ⟨gb143, 0, none⟩ (.int .i64 ((rd_T71 l0_3 x48_2).f0))).setCell ⟨gb143, 1, none⟩ (.int .i64 ((rd_T71 l0_3 x48_2).f1))).setCell ⟨gb143, 2, none⟩ (.int .i64 ((rd_T71 l0_3 x48_2).f2))) w.heap.size (fun k_ => k_ ≠ gb143) u142003 x142003_2) := ⟨by (with_reducible repeat (first | apply Kd.R_alloc | apply Kd.R_drewN | apply Kd.R_drew)); exact Kd.R_mono (Kd.R_far (p := ⟨gb143, 2, none⟩) (Kd.R_far (p := ⟨gb143, 1, none⟩) (Kd.R_far (p := ⟨gb143, 0, none⟩) (Kd.R_mono HO_142003.out (fun k_ hk => (⟨hk, hk.2⟩ : _ ∧ k_ ≠ gb143))) (fun _ hk => hk.2) (.int .i64 ((rd_T71 l0_3 x48_2).f0))) (fun _ hk => hk.2) (.int .i64 ((rd_T71 l0_3 x48_2).f1))) (fun _ hk => hk.2) (.int .i64 ((rd_T71 l0_3 x48_2).f2))) (fun _ hk => hk.1.2)⟩
            have n2_ : Z0 ((((w86.setCell ⟨gb143, 0, none⟩ (.int .i64 ((rd_T71 l0_3 x48_2).f0))).setCell ⟨gb143, 1, none⟩ (.int .i64 ((rd_T71 l0_3 x48_2).f1))).setCell ⟨gb143, 2, none⟩ (.int .i64 ((rd_T71 l0_3 x48_2).f2))).heap[gb134]? = some (.cells #[.int .i64 a0_0, .slice A0_1 l0_1.length c0_1, .int .i64 a0_2, .slice (some ad142) l0_3.length c0_3] 39 (0, 0))) := ⟨by (with_reducible repeat (first | refine bDN ?_ _ | refine bDr ?_ | refine bAl ?_ _)); refine blk_far ?_ NB134_143.out _; (with_reducible repeat (first | refine bDN ?_ _ | refine bDr ?_ | refine bAl ?_ _)); refine blk_far ?_ NB134_143.out _; (with_reducible repeat (first | refine bDN ?_ _ | refine bDr ?_ | refine bAl ?_ _)); refine blk_far ?_ NB134_143.out _; (with_reducible repeat (first | refine bDN ?_ _ | refine bDr ?_ | refine bAl ?_ _)); exact BK134.out⟩
            have n3_ : Z0 ((((w86.setCell ⟨gb143, 0, none⟩ (.int .i64 ((rd_T71 l0_3 x48_2).f0))).setCell ⟨gb143, 1, none⟩ (.int .i64 ((rd_T71 l0_3 x48_2).f1))).setCell ⟨gb143, 2, none⟩ (.int .i64 ((rd_T71 l0_3 x48_2).f2))).heap[gb135]? = some (.cells #[.int .i64 a1_0, .slice A1_1 l1_1.length c1_1, .int .i64 a1_2, .slice A1_3 l1_3.length c1_3] 39 (0, 0))) := ⟨by (with_reducible repeat (first | refine bDN ?_ _ | refine bDr ?_ | refine bAl ?_ _)); refine blk_far ?_ NB135_143.out _; (with_reducible repeat (first | refine bDN ?_ _ | refine bDr ?_ | refine bAl ?_ _)); refine blk_far ?_ NB135_143.out _; (with_reducible repeat (first | refine bDN ?_ _ | refine bDr ?_ | refine bAl ?_ _)); refine blk_far ?_ NB135_143.out _; (with_reducible repeat (first | refine bDN ?_ _ | refine bDr ?_ | refine bAl ?_ _)); exact BK135.out⟩
            have n4_ : Z0 ((((w86.setCell ⟨gb143, 0, none⟩ (.int .i64 ((rd_T71 l0_3 x48_2).f0))).setCell ⟨gb143, 1, none⟩ (.int .i64 ((rd_T71 l0_3 x48_2).f1))).setCell ⟨gb143, 2, none⟩ (.int .i64 ((rd_T71 l0_3 x48_2).f2))).heap[gb136]? = some (.cells #[.int .i64 x137000_2, .slice none 0 0, .int .i64 x137002_2, .slice none 0 0] 39 (0, 0))) := ⟨by (with_reducible repeat (first | refine bDN ?_ _ | refine bDr ?_ | refine bAl ?_ _)); refine blk_far ?_ NB136_143.out _; (with_reducible repeat (first | refine bDN ?_ _ | refine bDr ?_ | refine bAl ?_ _)); refine blk_far ?_ NB136_143.out _; (with_reducible repeat (first | refine bDN ?_ _ | refine bDr ?_ | refine bAl ?_ _)); refine blk_far ?_ NB136_143.out _; (with_reducible repeat (first | refine bDN ?_ _ | refine bDr ?_ | refine bAl ?_ _)); exact BK136.out⟩
            have n5_ : Z0 ((((w86.setCell ⟨gb143, 0, none⟩ (.int .i64 ((rd_T71 l0_3 x48_2).f0))).setCell ⟨gb143, 1, none⟩ (.int .i64 ((rd_T71 l0_3 x48_2).f1))).setCell ⟨gb143, 2, none⟩ (.int .i64 ((rd_T71 l0_3 x48_2).f2))).heap[gb141]? = some (.cells #[.int .i64 a0_0, .slice Ao45 t138.length co45, .int .i64 (wrap64 (a0_2 + a1_2)), u142003] 39 (0, 0))) := ⟨by (with_reducible repeat (first | refine bDN ?_ _ | refine bDr ?_ | refine bAl ?_ _)); refine blk_far ?_ NB141_143.out _; (with_reducible repeat (first | refine bDN ?_ _ | refine bDr ?_ | refine bAl ?_ _)); refine blk_far ?_ NB141_143.out _; (with_reducible repeat (first | refine bDN ?_ _ | refine bDr ?_ | refine bAl ?_ _)); refine blk_far ?_ NB141_143.out _; (with_reducible repeat (first | refine bDN ?_ _ | refine bDr ?_ | refine bAl ?_ _)); exact BK141.out⟩
            have n6_ : Z0 ((((w86.setCell ⟨gb143, 0, none⟩ (.int .i64 ((rd_T71 l0_3 x48_2).f0))).setCell ⟨gb143, 1, none⟩ (.int .i64 ((rd_T71 l0_3 x48_2).f1))).setCell ⟨gb143, 2, none⟩ (.int .i64 ((rd_T71 l0_3 x48_2).f2))).heap[gb143]? = some (.cells #[.int .i64 ((rd_T71 l0_3 x48_2).f0), .int .i64 ((rd_T71 l0_3 x48_2).f1), .int .i64 ((rd_T71 l0_3 x48_2).f2)] 71 (0, 0))) := ⟨by (with_reducible repeat (first | refine bDN ?_ _ | refine bDr ?_ | refine bAl ?_ _)); refine blk_put (cs := #[.int .i64 ((rd_T71 l0_3 x48_2).f0), .int .i64 ((rd_T71 l0_3 x48_2).f1), .int .i64 0]) ?_ 2 _ rfl; (with_reducible repeat (first | refine bDN ?_ _ | refine bDr ?_ | refine bAl ?_ _)); refine blk_put (cs := #[.int .i64 ((rd_T71 l0_3 x48_2).f0), .int .i64 0, .int .i64 0]) ?_ 1 _ rfl; (with_reducible repeat (first | refine bDN ?_ _ | refine bDr ?_ | refine bAl ?_ _)); refine blk_put (cs := #[.int .i64 0, .int .i64 0, .int .i64 0]) ?_ 0 _ rfl; (with_reducible repeat (first | refine bDN ?_ _ | refine bDr ?_ | refine bAl ?_ _)); exact BK143.out⟩
            have n7_ : Z0 (Below w.heap.size w (((w86.setCell ⟨gb143, 0, none⟩ (.int .i64 ((rd_T71 l0_3 x48_2).f0))).setCell ⟨gb143, 1, none⟩ (.int .i64 ((rd_T71 l0_3 x48_2).f1))).setCell ⟨gb143, 2, none⟩ (.int .i64 ((rd_T71 l0_3 x48_2).f2)))) := ⟨by repeat (first | (with_reducible first | exact HB.out | apply beA | apply bpN | apply bd1 | refine beS ?_ GE134.out | refine beS ?_ GE135.out | refine beS ?_ GE136.out | refine beS ?_ GE141.out | refine beS ?_ GE143.out) | exact HB.out)⟩
            (try clear HO_142001)
            (try clear HO_142003)
            (try clear BK134)
            (try clear BK135)
            (try clear BK136)
            (try clear BK141)
            (try clear BK143)
            (try clear HB)
            generalize (((w86.setCell ⟨gb143, 0, none⟩ (.int .i64 ((rd_T71 l0_3 x48_2).f0))).setCell ⟨gb143, 1, none⟩ (.int .i64 ((rd_T71 l0_3 x48_2).f1))).setCell ⟨gb143, 2, none⟩ (.int .i64 ((rd_T71 l0_3 x48_2).f2))) = w92 at n0_ n1_ n2_ n3_ n4_ n5_ n6_ n7_ ⊢
            have HO_142001 := n0_
            have HO_142003 := n1_
            have BK134 := n2_
            have BK135 := n3_
            have BK136 := n4_
            have BK141 := n5_
            have BK143 := n6_
            have HB := n7_
            clear n0_ n1_ n2_ n3_ n4_ n5_ n6_ n7_
            have n0_ := Z0.mk (Kd.R_drew HO_142001.out)
            have n1_ := Z0.mk (Kd.R_drew HO_142003.out)
            have n2_ := Z0.mk (bDr BK134.out)
            have n3_ := Z0.mk (bDr BK135.out)
            have n4_ := Z0.mk (bDr BK136.out)
            have n5_ := Z0.mk (bDr BK141.out)
            have n6_ := Z0.mk (bDr BK143.out)
            have n7_ := Z0.mk (bd1 HB.out)
            clear HO_142001
            clear HO_142003
            clear BK134
            clear BK135
            clear BK136
            clear BK141
            clear BK143
            clear HB
            have HO_142001 := n0_
            have HO_142003 := n1_
            have BK134 := n2_
            have BK135 := n3_
            have BK136 := n4_
            have BK141 := n5_
            have BK143 := n6_
            have HB := n7_
            clear n0_ n1_ n2_ n3_ n4_ n5_ n6_ n7_
            have p144 : 0 ≤ (x48_2 : Int) := of_decide_eq_true (by first | (with_reducible assumption) | assumption)
            have q144 : x48_2 < (l1_3.length : Int) := of_decide_eq_true (by first | (with_reducible assumption) | assumption)
            obtain ⟨ad144, e144, hx144_0, hx144_1, hx144_2⟩ := at_T71 HR1_3.out x48_2 p144 q144
            have hw144_2 := hx144_2
            have hw144_1 := hx144_1
            have hw144_0 := hx144_0
            cases e144
            replace hx144_0 := (HB.out.cell (World.block_lt_of_cell? w _ hx144_0)).trans hx144_0
            replace hx144_1 := (HB.out.cell (World.block_lt_of_cell? w _ hx144_1)).trans hx144_1
            replace hx144_2 := (HB.out.cell (World.block_lt_of_cell? w _ hx144_2)).trans hx144_2
            replace p144 := eq_true p144
            replace q144 := eq_true q144
            refine start_ (n := 13) (S := fun w' => w'.cell? ⟨gb143, 0, none⟩ = some (.int .i64 ((rd_T71 l0_3 x48_2).f0)) ∧ w'.cell? ⟨gb143, 1, none⟩ = some (.int .i64 ((rd_T71 l0_3 x48_2).f1)) ∧ w'.cell? ⟨gb143, 2, none⟩ = some (.int .i64 ((rd_T71 l0_3 x48_2).f2)) ∧ w'.cell? ⟨gb135, 0, none⟩ = some (.int .i64 a1_0) ∧ w'.cell? ⟨gb135, 1, none⟩ = some (.slice A1_1 l1_1.length c1_1) ∧ w'.cell? ⟨gb135, 2, none⟩ = some (.int .i64 a1_2) ∧ w'.cell? ⟨gb135, 3, none⟩ = some (.slice (some ad144) l1_3.length c1_3) ∧ w'.cell? (ad144.add ((x48_2).toNat * 3)) = some (.int .i64 ((rd_T71 l1_3 x48_2).f0)) ∧ w'.cell? ⟨(ad144.add ((x48_2).toNat * 3)).block, (ad144.add ((x48_2).toNat * 3)).off + 1, none⟩ = some (.int .i64 ((rd_T71 l1_3 x48_2).f1)) ∧ w'.cell? ⟨(ad144.add ((x48_2).toNat * 3)).block, (ad144.add ((x48_2).toNat * 3)).off + 2, none⟩ = some (.int .i64 ((rd_T71 l1_3 x48_2).f2))) (ds := []) #[false, false, false, false, false, false, false, false, false, false, false, false, false] (by kernel_rfl) rfl rfl ⟨(bCe BK143.out 0).trans rfl, (bCe BK143.out 1).trans rfl, (bCe BK143.out 2).trans rfl, (bCe BK135.out 0).trans rfl, (bCe BK135.out 1).trans rfl, (bCe BK135.out 2).trans rfl, (bCe BK135.out 3).trans rfl, ((HB.out.cell (World.block_lt_of_cell? w _ hw144_0)).trans hw144_0), ((HB.out.cell (World.block_lt_of_cell? w _ hw144_1)).trans hw144_1), ((HB.out.cell (World.block_lt_of_cell? w _ hw144_2)).trans hw144_2)⟩ (fun hHeld => ?_); refine with_tabW rows_Join.tab9 rows_Join.bits9 (fun HT_ HW_ => ?_)
            generalize w92.drew = w93 at HO_142001 HO_142003 BK134 BK135 BK136 BK141 BK143 HB hx144_0 hx144_1 hx144_2 hHeld ⊢
            refine pure_ (i := 1) (N := some 55) (v := ?_) (a' := ?_) #[false, true, false, false, false, false, false, false, false, false, false, false, false] rfl rfl (any_of HT_.out (by kernel_rfl)) (fun _ _ _ h => h) (Or.inl ⟨by rfl, ?_⟩) ?_ ?_
            rotate_left
            ·intro w'
             go_simp
             with_reducible rfl
            rotate_left
            ·simp only [Act.put, qA, qB, qC, i64_w, i32_w]
             rfl
            refine pure_ (i := 3) (N := some 57) (v := ?_) (a' := ?_) #[false, true, false, true, false, false, false, false, false, false, false, false, false] rfl rfl (any_of HT_.out (by kernel_rfl)) (fun _ _ _ h => h) (Or.inl ⟨by rfl, ?_⟩) ?_ ?_
            rotate_left
            ·intro w'
             go_simp
             with_reducible rfl
            rotate_left
            ·simp only [Act.put, qA, qB, qC, i64_w, i32_w]
             rfl
            refine take_ (i := 0) (N := some 54) (v := ?_) (a' := ?_) #[true, true, false, true, false, false, false, false, false, false, false, false, false] rfl rfl (take_ofW HT_.out HW_.out (by kernel_rfl)) (fun _ _ _ h => h) (Or.inl ⟨by rfl, ?_⟩) hHeld ?_ ?_
            rotate_left
            ·rintro w' ⟨s0, s1, s2, s3, s4, s5, s6, s7, s8, s9⟩
             go_simp
             with_reducible rfl
            rotate_left
            ·simp only [Act.put, qA, qB, qC, i64_w, i32_w]
             rfl
            refine take_ (i := 2) (N := some 56) (v := ?_) (a' := ?_) #[true, true, true, true, false, false, false, false, false, false, false, false, false] rfl rfl (take_ofW HT_.out HW_.out (by kernel_rfl)) (fun _ _ _ h => h) (Or.inl ⟨by rfl, ?_⟩) hHeld ?_ ?_
            rotate_left
            ·rintro w' ⟨s0, s1, s2, s3, s4, s5, s6, s7, s8, s9⟩
             go_simp
             with_reducible rfl
            rotate_left
            ·simp only [Act.put, qA, qB, qC, i64_w, i32_w]
             rfl
            refine pure_ (i := 4) (N := some 58) (v := ?_) (a' := ?_) #[true, true, true, true, true, false, false, false, false, false, false, false, false] rfl rfl (any_of HT_.out (by kernel_rfl)) (fun _ _ _ h => h) (Or.inl ⟨by rfl, ?_⟩) ?_ ?_
            rotate_left
            ·intro w'
             go_simp
             with_reducible rfl
            rotate_left
            ·simp only [Act.put, qA, qB, qC, i64_w, i32_w]
             rfl
            refine take_ (i := 5) (N := some 59) (v := ?_) (a' := ?_) #[true, true, true, true, true, true, false, false, false, false, false, false, false] rfl rfl (take_ofW HT_.out HW_.out (by kernel_rfl)) (fun _ _ _ h => h) (Or.inl ⟨by rfl, ?_⟩) hHeld ?_ ?_
            rotate_left
            ·rintro w' ⟨s0, s1, s2, s3, s4, s5, s6, s7, s8, s9⟩
             go_simp
             with_reducible rfl
            rotate_left
            ·simp only [Act.put, qA, qB, qC, i64_w, i32_w]
             rfl
            refine join_ (σ := Nat) 2 #[true, true, true, true, true, true, true, true, true, true, true, false, false] (fun s_ => [(60, .tuple #[.agg #[.int .i64 t145, .int .i64 t146, .int .i64 t147], .int .i64 t148]), (9, .pointer (some ⟨s_, 0, none⟩)), (53, .tuple #[.agg #[.int .i64 t145, .int .i64 t146, .int .i64 t147], .int .i64 t148]), (61, .agg #[.int .i64 t145, .int .i64 t146, .int .i64 t147]), (62, .int .i64 t148)]) (fun s_ w' => (w'.cell? ⟨gb143, 0, none⟩ = some (.int .i64 ((rd_T71 l0_3 x48_2).f0)) ∧ w'.cell? ⟨gb143, 1, none⟩ = some (.int .i64 ((rd_T71 l0_3 x48_2).f1)) ∧ w'.cell? ⟨gb143, 2, none⟩ = some (.int .i64 ((rd_T71 l0_3 x48_2).f2)) ∧ w'.cell? ⟨gb135, 0, none⟩ = some (.int .i64 a1_0) ∧ w'.cell? ⟨gb135, 1, none⟩ = some (.slice A1_1 l1_1.length c1_1) ∧ w'.cell? ⟨gb135, 2, none⟩ = some (.int .i64 a1_2) ∧ w'.cell? ⟨gb135, 3, none⟩ = some (.slice (some ad144) l1_3.length c1_3) ∧ w'.cell? (ad144.add ((x48_2).toNat * 3)) = some (.int .i64 ((rd_T71 l1_3 x48_2).f0)) ∧ w'.cell? ⟨(ad144.add ((x48_2).toNat * 3)).block, (ad144.add ((x48_2).toNat * 3)).off + 1, none⟩ = some (.int .i64 ((rd_T71 l1_3 x48_2).f1)) ∧ w'.cell? ⟨(ad144.add ((x48_2).toNat * 3)).block, (ad144.add ((x48_2).toNat * 3)).off + 2, none⟩ = some (.int .i64 ((rd_T71 l1_3 x48_2).f2))) ∧ (Kd.R Kd.string 9 w' w.heap.size (fun _ => True) (.slice Ao45 t138.length co45) t138) ∧ (Kd.R k71 71 w' w.heap.size (fun k_ => k_ ≠ gb143 ∧ k_ ≠ s_) u142003 x142003_2) ∧ (w'.heap[gb134]? = some (.cells #[.int .i64 a0_0, .slice A0_1 l0_1.length c0_1, .int .i64 a0_2, .slice (some ad142) l0_3.length c0_3] 39 (0, 0))) ∧ (w'.heap[gb135]? = some (.cells #[.int .i64 a1_0, .slice A1_1 l1_1.length c1_1, .int .i64 a1_2, .slice (some ad144) l1_3.length c1_3] 39 (0, 0))) ∧ (w'.heap[gb136]? = some (.cells #[.int .i64 x137000_2, .slice none 0 0, .int .i64 x137002_2, .slice none 0 0] 39 (0, 0))) ∧ (w'.heap[gb141]? = some (.cells #[.int .i64 a0_0, .slice Ao45 t138.length co45, .int .i64 (wrap64 (a0_2 + a1_2)), u142003] 39 (0, 0))) ∧ (w'.heap[gb143]? = some (.cells #[.int .i64 ((rd_T71 l0_3 x48_2).f0), .int .i64 ((rd_T71 l0_3 x48_2).f1), .int .i64 ((rd_T71 l0_3 x48_2).f2)] 71 (0, 0))) ∧ (w'.heap[s_]? = some (.cells #[.int .i64 0, .int .i64 0, .int .i64 0] 71 (0, 0))) ∧ (w.heap.size ≤ s_) ∧ (w.heap.size ≤ s_) ∧ (gb134 ≠ s_) ∧ (s_ ≠ gb134) ∧ (gb135 ≠ s_) ∧ (s_ ≠ gb135) ∧ (gb136 ≠ s_) ∧ (s_ ≠ gb136) ∧ (gb141 ≠ s_) ∧ (s_ ≠ gb141) ∧ (gb143 ≠ s_) ∧ (s_ ≠ gb143) ∧ (Below w.heap.size w w')) ?_ ?_
            rotate_left
            ·intro hCont
             refine two_ (i := 6) (j := 10) (Ni := some 60) (Nj := some 9) #[true, true, true, true, true, true, true, false, false, false, false, false, false] #[true, true, true, true, true, true, false, false, false, false, true, false, false] rfl rfl rfl rfl (two_of HT_.out (by kernel_rfl)) (by decide) (by decide) (fun K hK => ?_) (fun K hK => ?_)
             ·skip
              refine goes_ Try.func43 (by kernel_rfl) rfl #[.agg #[.int .i64 ((rd_T71 l0_3 x48_2).f0), .int .i64 ((rd_T71 l0_3 x48_2).f1), .int .i64 ((rd_T71 l0_3 x48_2).f2)], .agg #[.int .i64 ((rd_T71 l1_3 x48_2).f0), .int .i64 ((rd_T71 l1_3 x48_2).f1), .int .i64 ((rd_T71 l1_3 x48_2).f2)]] (by rfl) rfl rfl (by (try simp only [List.map_toArray, List.map_cons, List.map_nil]); first | done | rfl | (simp only [List.length_drop, List.length_take]; rfl)) ?_
              with_reducible refine (agg_Join.calls k2 ((rd_T71 l0_3 x48_2).f0) ((rd_T71 l0_3 x48_2).f1) ((rd_T71 l0_3 x48_2).f2) ((rd_T71 l1_3 x48_2).f0) ((rd_T71 l1_3 x48_2).f1) ((rd_T71 l1_3 x48_2).f2) t145 t146 t147 t148 _ A56.out).mono ?_
              rintro e w94 ⟨rfl, hb⟩
              refine ⟨_, rfl, ?_⟩
              have n0_ := Z0.mk (Kd.R_below (by (with_reducible repeat (first | apply Kd.R_alloc | apply Kd.R_drewN | apply Kd.R_drew)); exact HO_142001.out) hb)
              have n1_ := Z0.mk (Kd.R_below (by (with_reducible repeat (first | apply Kd.R_alloc | apply Kd.R_drewN | apply Kd.R_drew)); exact HO_142003.out) hb)
              have n2_ := Z0.mk (blk_below (g := gb134) (o := .cells #[.int .i64 a0_0, .slice A0_1 l0_1.length c0_1, .int .i64 a0_2, .slice (some ad142) l0_3.length c0_3] 39 (0, 0)) (by (with_reducible repeat (first | refine bDN ?_ _ | refine bDr ?_ | refine bAl ?_ _)); exact BK134.out) hb)
              have n3_ := Z0.mk (blk_below (g := gb135) (o := .cells #[.int .i64 a1_0, .slice A1_1 l1_1.length c1_1, .int .i64 a1_2, .slice (some ad144) l1_3.length c1_3] 39 (0, 0)) (by (with_reducible repeat (first | refine bDN ?_ _ | refine bDr ?_ | refine bAl ?_ _)); exact BK135.out) hb)
              have n4_ := Z0.mk (blk_below (g := gb136) (o := .cells #[.int .i64 x137000_2, .slice none 0 0, .int .i64 x137002_2, .slice none 0 0] 39 (0, 0)) (by (with_reducible repeat (first | refine bDN ?_ _ | refine bDr ?_ | refine bAl ?_ _)); exact BK136.out) hb)
              have n5_ := Z0.mk (blk_below (g := gb141) (o := .cells #[.int .i64 a0_0, .slice Ao45 t138.length co45, .int .i64 (wrap64 (a0_2 + a1_2)), u142003] 39 (0, 0)) (by (with_reducible repeat (first | refine bDN ?_ _ | refine bDr ?_ | refine bAl ?_ _)); exact BK141.out) hb)
              have n6_ := Z0.mk (blk_below (g := gb143) (o := .cells #[.int .i64 ((rd_T71 l0_3 x48_2).f0), .int .i64 ((rd_T71 l0_3 x48_2).f1), .int .i64 ((rd_T71 l0_3 x48_2).f2)] 71 (0, 0)) (by (with_reducible repeat (first | refine bDN ?_ _ | refine bDr ?_ | refine bAl ?_ _)); exact BK143.out) hb)
              have n7_ := Z0.mk (below_step (by repeat (first | (with_reducible first | exact HB.out | apply beA | apply bpN | apply bd1 | refine beS ?_ GE134.out | refine beS ?_ GE135.out | refine beS ?_ GE136.out | refine beS ?_ GE141.out | refine beS ?_ GE143.out) | exact HB.out)) hb)
              clear HO_142001
              clear HO_142003
              clear BK134
              clear BK135
              clear BK136
              clear BK141
              clear BK143
              clear HB
              have HO_142001 := n0_
              have HO_142003 := n1_
              have BK134 := n2_
              have BK135 := n3_
              have BK136 := n4_
              have BK141 := n5_
              have BK143 := n6_
              have HB := n7_
              clear n0_ n1_ n2_ n3_ n4_ n5_ n6_ n7_
              (try clear hb)
              (try clear hb2)
              (try clear hk)
              (try clear hi)
              refine hK.out _ _ ⟨(bCe BK143.out 0).trans rfl, (bCe BK143.out 1).trans rfl, (bCe BK143.out 2).trans rfl, (bCe BK135.out 0).trans rfl, (bCe BK135.out 1).trans rfl, (bCe BK135.out 2).trans rfl, (bCe BK135.out 3).trans rfl, ((HB.out.cell (World.block_lt_of_cell? w _ hw144_0)).trans hw144_0), ((HB.out.cell (World.block_lt_of_cell? w _ hw144_1)).trans hw144_1), ((HB.out.cell (World.block_lt_of_cell? w _ hw144_2)).trans hw144_2)⟩ (fun hHeld => ?_)
              clear hK K
              refine norm_ (a' := ?_) ?_ ?_
              rotate_left
              ·show Act.put _ (some 60) _ = _
               simp only [Act.put, qA, qB, qC, i64_w, i32_w]
               rfl
              refine pure_ (i := 7) (N := some 53) (v := ?_) (a' := ?_) #[true, true, true, true, true, true, true, true, false, false, false, false, false] rfl rfl (any_of HT_.out (by kernel_rfl)) (fun _ _ _ h => h) (Or.inl ⟨by rfl, ?_⟩) ?_ ?_
              rotate_left
              ·intro w'
               go_simp
               with_reducible rfl
              rotate_left
              ·simp only [Act.put, qA, qB, qC, i64_w, i32_w]
               rfl
              refine pure_ (i := 8) (N := some 61) (v := ?_) (a' := ?_) #[true, true, true, true, true, true, true, true, true, false, false, false, false] rfl rfl (any_of HT_.out (by kernel_rfl)) (fun _ _ _ h => h) (Or.inl ⟨by rfl, ?_⟩) ?_ ?_
              rotate_left
              ·intro w'
               go_simp
               with_reducible rfl
              rotate_left
              ·simp only [Act.put, qA, qB, qC, i64_w, i32_w]
               rfl
              refine pure_ (i := 9) (N := some 62) (v := ?_) (a' := ?_) #[true, true, true, true, true, true, true, true, true, true, false, false, false] rfl rfl (any_of HT_.out (by kernel_rfl)) (fun _ _ _ h => h) (Or.inl ⟨by rfl, ?_⟩) ?_ ?_
              rotate_left
              ·intro w'
               go_simp
               with_reducible rfl
              rotate_left
              ·simp only [Act.put, qA, qB, qC, i64_w, i32_w]
               rfl
              refine one_ (i := 10) (N := some 9) #[true, true, true, true, true, true, true, true, true, true, true, false, false] rfl rfl (one_of HT_.out (by kernel_rfl)) (by decide) (fun K hK => ?_)
              refine box_step ?hg (N := 9) ?hd (cs := #[.int .i64 0, .int .i64 0, .int .i64 0]) (t := 71) ?hr ?_; (case hd => rfl); (case hg => rfl); (case hr => first | (go_simp; done) | (go_simp; rfl))
              intro gb149 hg w95 hbox hb
              have n0_ := Z0.mk (Kd.R_below (by (with_reducible repeat (first | apply Kd.R_alloc | apply Kd.R_drewN | apply Kd.R_drew)); exact HO_142001.out) hb)
              have n1_ := Z0.mk (Kd.R_below (Kd.R_elderB (by (with_reducible repeat (first | apply Kd.R_alloc | apply Kd.R_drewN | apply Kd.R_drew)); exact HO_142003.out) gb149 (Nat.le_of_eq hg.symm)) hb)
              have n2_ := Z0.mk (blk_below (g := gb134) (o := .cells #[.int .i64 a0_0, .slice A0_1 l0_1.length c0_1, .int .i64 a0_2, .slice (some ad142) l0_3.length c0_3] 39 (0, 0)) (by (with_reducible repeat (first | refine bDN ?_ _ | refine bDr ?_ | refine bAl ?_ _)); exact BK134.out) hb)
              have n3_ := Z0.mk (blk_below (g := gb135) (o := .cells #[.int .i64 a1_0, .slice A1_1 l1_1.length c1_1, .int .i64 a1_2, .slice (some ad144) l1_3.length c1_3] 39 (0, 0)) (by (with_reducible repeat (first | refine bDN ?_ _ | refine bDr ?_ | refine bAl ?_ _)); exact BK135.out) hb)
              have n4_ := Z0.mk (blk_below (g := gb136) (o := .cells #[.int .i64 x137000_2, .slice none 0 0, .int .i64 x137002_2, .slice none 0 0] 39 (0, 0)) (by (with_reducible repeat (first | refine bDN ?_ _ | refine bDr ?_ | refine bAl ?_ _)); exact BK136.out) hb)
              have n5_ := Z0.mk (blk_below (g := gb141) (o := .cells #[.int .i64 a0_0, .slice Ao45 t138.length co45, .int .i64 (wrap64 (a0_2 + a1_2)), u142003] 39 (0, 0)) (by (with_reducible repeat (first | refine bDN ?_ _ | refine bDr ?_ | refine bAl ?_ _)); exact BK141.out) hb)
              have n6_ := Z0.mk (blk_below (g := gb143) (o := .cells #[.int .i64 ((rd_T71 l0_3 x48_2).f0), .int .i64 ((rd_T71 l0_3 x48_2).f1), .int .i64 ((rd_T71 l0_3 x48_2).f2)] 71 (0, 0)) (by (with_reducible repeat (first | refine bDN ?_ _ | refine bDr ?_ | refine bAl ?_ _)); exact BK143.out) hb)
              have n7_ := Z0.mk (below_step (by repeat (first | (with_reducible first | exact HB.out | apply beA | apply bpN | apply bd1 | refine beS ?_ GE134.out | refine beS ?_ GE135.out | refine beS ?_ GE136.out | refine beS ?_ GE141.out | refine beS ?_ GE143.out) | exact HB.out)) hb)
              have n8_ := Z0.mk (hbox)
              have n9_ := Z0.mk ((by rw [hg]; exact (below_size (by repeat (first | (with_reducible first | exact HB.out | apply beA | apply bpN | apply bd1 | refine beS ?_ GE134.out | refine beS ?_ GE135.out | refine beS ?_ GE136.out | refine beS ?_ GE141.out | refine beS ?_ GE143.out) | exact HB.out))) : w.heap.size ≤ gb149))
              have n10_ := Z0.mk ((by rw [hg]; exact (below_size (by repeat (first | (with_reducible first | exact HB.out | apply beA | apply bpN | apply bd1 | refine beS ?_ GE134.out | refine beS ?_ GE135.out | refine beS ?_ GE136.out | refine beS ?_ GE141.out | refine beS ?_ GE143.out) | exact HB.out))) : w.heap.size ≤ gb149))
              have n11_ := Z0.mk ((by rw [hg]; exact Nat.ne_of_lt (blk_lt (g := gb134) (o := .cells #[.int .i64 a0_0, .slice A0_1 l0_1.length c0_1, .int .i64 a0_2, .slice (some ad142) l0_3.length c0_3] 39 (0, 0)) (by (with_reducible repeat (first | refine bDN ?_ _ | refine bDr ?_ | refine bAl ?_ _)); exact BK134.out)) : gb134 ≠ gb149))
              have n12_ := Z0.mk ((by rw [hg]; exact Nat.ne_of_gt (blk_lt (g := gb134) (o := .cells #[.int .i64 a0_0, .slice A0_1 l0_1.length c0_1, .int .i64 a0_2, .slice (some ad142) l0_3.length c0_3] 39 (0, 0)) (by (with_reducible repeat (first | refine bDN ?_ _ | refine bDr ?_ | refine bAl ?_ _)); exact BK134.out)) : gb149 ≠ gb134))
              have n13_ := Z0.mk ((by rw [hg]; exact Nat.ne_of_lt (blk_lt (g := gb135) (o := .cells #[.int .i64 a1_0, .slice A1_1 l1_1.length c1_1, .int .i64 a1_2, .slice (some ad144) l1_3.length c1_3] 39 (0, 0)) (by (with_reducible repeat (first | refine bDN ?_ _ | refine bDr ?_ | refine bAl ?_ _)); exact BK135.out)) : gb135 ≠ gb149))
              have n14_ := Z0.mk ((by rw [hg]; exact Nat.ne_of_gt (blk_lt (g := gb135) (o := .cells #[.int .i64 a1_0, .slice A1_1 l1_1.length c1_1, .int .i64 a1_2, .slice (some ad144) l1_3.length c1_3] 39 (0, 0)) (by (with_reducible repeat (first | refine bDN ?_ _ | refine bDr ?_ | refine bAl ?_ _)); exact BK135.out)) : gb149 ≠ gb135))
              have n15_ := Z0.mk ((by rw [hg]; exact Nat.ne_of_lt (blk_lt (g := gb136) (o := .cells #[.int .i64 x137000_2, .slice none 0 0, .int .i64 x137002_2, .slice none 0 0] 39 (0, 0)) (by (with_reducible repeat (first | refine bDN ?_ _ | refine bDr ?_ | refine bAl ?_ _)); exact BK136.out)) : gb136 ≠ gb149))
              have n16_ := Z0.mk ((by rw [hg]; exact Nat.ne_of_gt (blk_lt (g := gb136) (o := .cells #[.int .i64 x137000_2, .slice none 0 0, .int .i64 x137002_2, .slice none 0 0] 39 (0, 0)) (by (with_reducible repeat (first | refine bDN ?_ _ | refine bDr ?_ | refine bAl ?_ _)); exact BK136.out)) : gb149 ≠ gb136))
              have n17_ := Z0.mk ((by rw [hg]; exact Nat.ne_of_lt (blk_lt (g := gb141) (o := .cells #[.int .i64 a0_0, .slice Ao45 t138.length co45, .int .i64 (wrap64 (a0_2 + a1_2)), u142003] 39 (0, 0)) (by (with_reducible repeat (first | refine bDN ?_ _ | refine bDr ?_ | refine bAl ?_ _)); exact BK141.out)) : gb141 ≠ gb149))
              have n18_ := Z0.mk ((by rw [hg]; exact Nat.ne_of_gt (blk_lt (g := gb141) (o := .cells #[.int .i64 a0_0, .slice Ao45 t138.length co45, .int .i64 (wrap64 (a0_2 + a1_2)), u142003] 39 (0, 0)) (by (with_reducible repeat (first | refine bDN ?_ _ | refine bDr ?_ | refine bAl ?_ _)); exact BK141.out)) : gb149 ≠ gb141))
              have n19_ := Z0.mk ((by rw [hg]; exact Nat.ne_of_lt (blk_lt (g := gb143) (o := .cells #[.int .i64 ((rd_T71 l0_3 x48_2).f0), .int .i64 ((rd_T71 l0_3 x48_2).f1), .int .i64 ((rd_T71 l0_3 x48_2).f2)] 71 (0, 0)) (by (with_reducible repeat (first | refine bDN ?_ _ | refine bDr ?_ | refine bAl ?_ _)); exact BK143.out)) : gb143 ≠ gb149))
              have n20_ := Z0.mk ((by rw [hg]; exact Nat.ne_of_gt (blk_lt (g := gb143) (o := .cells #[.int .i64 ((rd_T71 l0_3 x48_2).f0), .int .i64 ((rd_T71 l0_3 x48_2).f1), .int .i64 ((rd_T71 l0_3 x48_2).f2)] 71 (0, 0)) (by (with_reducible repeat (first | refine bDN ?_ _ | refine bDr ?_ | refine bAl ?_ _)); exact BK143.out)) : gb149 ≠ gb143))
              clear HO_142001
              clear HO_142003
              clear BK134
              clear BK135
              clear BK136
              clear BK141
              clear BK143
              clear HB
              have HO_142001 := n0_
              have HO_142003 := n1_
              have BK134 := n2_
              have BK135 := n3_
              have BK136 := n4_
              have BK141 := n5_
              have BK143 := n6_
              have HB := n7_
              have BK149 := n8_
              have GW149 := n9_
              have GE149 := n10_
              have NB134_149 := n11_
              have NB149_134 := n12_
              have NB135_149 := n13_
              have NB149_135 := n14_
              have NB136_149 := n15_
              have NB149_136 := n16_
              have NB141_149 := n17_
              have NB149_141 := n18_
              have NB143_149 := n19_
              have NB149_143 := n20_
              clear n0_ n1_ n2_ n3_ n4_ n5_ n6_ n7_ n8_ n9_ n10_ n11_ n12_ n13_ n14_ n15_ n16_ n17_ n18_ n19_ n20_
              clear hb hbox hg
              refine hK.out _ _ ⟨(bCe BK143.out 0).trans rfl, (bCe BK143.out 1).trans rfl, (bCe BK143.out 2).trans rfl, (bCe BK135.out 0).trans rfl, (bCe BK135.out 1).trans rfl, (bCe BK135.out 2).trans rfl, (bCe BK135.out 3).trans rfl, ((HB.out.cell (World.block_lt_of_cell? w _ hw144_0)).trans hw144_0), ((HB.out.cell (World.block_lt_of_cell? w _ hw144_1)).trans hw144_1), ((HB.out.cell (World.block_lt_of_cell? w _ hw144_2)).trans hw144_2)⟩ (fun hHeld => ?_)
              clear hK K
              refine norm_ (a' := ?_) ?_ ?_
              rotate_left
              ·show Act.put _ (some 9) _ = _
               simp only [Act.put, qA, qB, qC, i64_w, i32_w]
               rfl
              exact norm_ (by simp only [putAll, Act.put, qA, qB, qC]) (hCont (gb149) _ ⟨hHeld, (by (with_reducible repeat (first | apply Kd.R_alloc | apply Kd.R_drewN | apply Kd.R_drew)); exact HO_142001.out), (by (with_reducible repeat (first | apply Kd.R_alloc | apply Kd.R_drewN | apply Kd.R_drew)); exact HO_142003.out), (by (with_reducible repeat (first | refine bDN ?_ _ | refine bDr ?_ | refine bAl ?_ _)); exact BK134.out), (by (with_reducible repeat (first | refine bDN ?_ _ | refine bDr ?_ | refine bAl ?_ _)); exact BK135.out), (by (with_reducible repeat (first | refine bDN ?_ _ | refine bDr ?_ | refine bAl ?_ _)); exact BK136.out), (by (with_reducible repeat (first | refine bDN ?_ _ | refine bDr ?_ | refine bAl ?_ _)); exact BK141.out), (by (with_reducible repeat (first | refine bDN ?_ _ | refine bDr ?_ | refine bAl ?_ _)); exact BK143.out), (by (with_reducible repeat (first | refine bDN ?_ _ | refine bDr ?_ | refine bAl ?_ _)); exact BK149.out), GW149.out, GE149.out, NB134_149.out, NB149_134.out, NB135_149.out, NB149_135.out, NB136_149.out, NB149_136.out, NB141_149.out, NB149_141.out, NB143_149.out, NB149_143.out, (by repeat (first | (with_reducible first | exact HB.out | apply beA | apply bpN | apply bd1 | refine beS ?_ GE134.out | refine beS ?_ GE135.out | refine beS ?_ GE136.out | refine beS ?_ GE141.out | refine beS ?_ GE143.out | refine beS ?_ GE149.out) | exact HB.out))⟩)
             ·skip
              refine box_step ?hg (N := 9) ?hd (cs := #[.int .i64 0, .int .i64 0, .int .i64 0]) (t := 71) ?hr ?_; (case hd => rfl); (case hg => rfl); (case hr => first | (go_simp; done) | (go_simp; rfl))
              intro gb149 hg w94 hbox hb
              have n0_ := Z0.mk (Kd.R_below (by (with_reducible repeat (first | apply Kd.R_alloc | apply Kd.R_drewN | apply Kd.R_drew)); exact HO_142001.out) hb)
              have n1_ := Z0.mk (Kd.R_below (Kd.R_elderB (by (with_reducible repeat (first | apply Kd.R_alloc | apply Kd.R_drewN | apply Kd.R_drew)); exact HO_142003.out) gb149 (Nat.le_of_eq hg.symm)) hb)
              have n2_ := Z0.mk (blk_below (g := gb134) (o := .cells #[.int .i64 a0_0, .slice A0_1 l0_1.length c0_1, .int .i64 a0_2, .slice (some ad142) l0_3.length c0_3] 39 (0, 0)) (by (with_reducible repeat (first | refine bDN ?_ _ | refine bDr ?_ | refine bAl ?_ _)); exact BK134.out) hb)
              have n3_ := Z0.mk (blk_below (g := gb135) (o := .cells #[.int .i64 a1_0, .slice A1_1 l1_1.length c1_1, .int .i64 a1_2, .slice (some ad144) l1_3.length c1_3] 39 (0, 0)) (by (with_reducible repeat (first | refine bDN ?_ _ | refine bDr ?_ | refine bAl ?_ _)); exact BK135.out) hb)
              have n4_ := Z0.mk (blk_below (g := gb136) (o := .cells #[.int .i64 x137000_2, .slice none 0 0, .int .i64 x137002_2, .slice none 0 0] 39 (0, 0)) (by (with_reducible repeat (first | refine bDN ?_ _ | refine bDr ?_ | refine bAl ?_ _)); exact BK136.out) hb)
              have n5_ := Z0.mk (blk_below (g := gb141) (o := .cells #[.int .i64 a0_0, .slice Ao45 t138.length co45, .int .i64 (wrap64 (a0_2 + a1_2)), u142003] 39 (0, 0)) (by (with_reducible repeat (first | refine bDN ?_ _ | refine bDr ?_ | refine bAl ?_ _)); exact BK141.out) hb)
              have n6_ := Z0.mk (blk_below (g := gb143) (o := .cells #[.int .i64 ((rd_T71 l0_3 x48_2).f0), .int .i64 ((rd_T71 l0_3 x48_2).f1), .int .i64 ((rd_T71 l0_3 x48_2).f2)] 71 (0, 0)) (by (with_reducible repeat (first | refine bDN ?_ _ | refine bDr ?_ | refine bAl ?_ _)); exact BK143.out) hb)
              have n7_ := Z0.mk (below_step (by repeat (first | (with_reducible first | exact HB.out | apply beA | apply bpN | apply bd1 | refine beS ?_ GE134.out | refine beS ?_ GE135.out | refine beS ?_ GE136.out | refine beS ?_ GE141.out | refine beS ?_ GE143.out) | exact HB.out)) hb)
              have n8_ := Z0.mk (hbox)
              have n9_ := Z0.mk ((by rw [hg]; exact (below_size (by repeat (first | (with_reducible first | exact HB.out | apply beA | apply bpN | apply bd1 | refine beS ?_ GE134.out | refine beS ?_ GE135.out | refine beS ?_ GE136.out | refine beS ?_ GE141.out | refine beS ?_ GE143.out) | exact HB.out))) : w.heap.size ≤ gb149))
              have n10_ := Z0.mk ((by rw [hg]; exact (below_size (by repeat (first | (with_reducible first | exact HB.out | apply beA | apply bpN | apply bd1 | refine beS ?_ GE134.out | refine beS ?_ GE135.out | refine beS ?_ GE136.out | refine beS ?_ GE141.out | refine beS ?_ GE143.out) | exact HB.out))) : w.heap.size ≤ gb149))
              have n11_ := Z0.mk ((by rw [hg]; exact Nat.ne_of_lt (blk_lt (g := gb134) (o := .cells #[.int .i64 a0_0, .slice A0_1 l0_1.length c0_1, .int .i64 a0_2, .slice (some ad142) l0_3.length c0_3] 39 (0, 0)) (by (with_reducible repeat (first | refine bDN ?_ _ | refine bDr ?_ | refine bAl ?_ _)); exact BK134.out)) : gb134 ≠ gb149))
              have n12_ := Z0.mk ((by rw [hg]; exact Nat.ne_of_gt (blk_lt (g := gb134) (o := .cells #[.int .i64 a0_0, .slice A0_1 l0_1.length c0_1, .int .i64 a0_2, .slice (some ad142) l0_3.length c0_3] 39 (0, 0)) (by (with_reducible repeat (first | refine bDN ?_ _ | refine bDr ?_ | refine bAl ?_ _)); exact BK134.out)) : gb149 ≠ gb134))
              have n13_ := Z0.mk ((by rw [hg]; exact Nat.ne_of_lt (blk_lt (g := gb135) (o := .cells #[.int .i64 a1_0, .slice A1_1 l1_1.length c1_1, .int .i64 a1_2, .slice (some ad144) l1_3.length c1_3] 39 (0, 0)) (by (with_reducible repeat (first | refine bDN ?_ _ | refine bDr ?_ | refine bAl ?_ _)); exact BK135.out)) : gb135 ≠ gb149))
              have n14_ := Z0.mk ((by rw [hg]; exact Nat.ne_of_gt (blk_lt (g := gb135) (o := .cells #[.int .i64 a1_0, .slice A1_1 l1_1.length c1_1, .int .i64 a1_2, .slice (some ad144) l1_3.length c1_3] 39 (0, 0)) (by (with_reducible repeat (first | refine bDN ?_ _ | refine bDr ?_ | refine bAl ?_ _)); exact BK135.out)) : gb149 ≠ gb135))
              have n15_ := Z0.mk ((by rw [hg]; exact Nat.ne_of_lt (blk_lt (g := gb136) (o := .cells #[.int .i64 x137000_2, .slice none 0 0, .int .i64 x137002_2, .slice none 0 0] 39 (0, 0)) (by (with_reducible repeat (first | refine bDN ?_ _ | refine bDr ?_ | refine bAl ?_ _)); exact BK136.out)) : gb136 ≠ gb149))
              have n16_ := Z0.mk ((by rw [hg]; exact Nat.ne_of_gt (blk_lt (g := gb136) (o := .cells #[.int .i64 x137000_2, .slice none 0 0, .int .i64 x137002_2, .slice none 0 0] 39 (0, 0)) (by (with_reducible repeat (first | refine bDN ?_ _ | refine bDr ?_ | refine bAl ?_ _)); exact BK136.out)) : gb149 ≠ gb136))
              have n17_ := Z0.mk ((by rw [hg]; exact Nat.ne_of_lt (blk_lt (g := gb141) (o := .cells #[.int .i64 a0_0, .slice Ao45 t138.length co45, .int .i64 (wrap64 (a0_2 + a1_2)), u142003] 39 (0, 0)) (by (with_reducible repeat (first | refine bDN ?_ _ | refine bDr ?_ | refine bAl ?_ _)); exact BK141.out)) : gb141 ≠ gb149))
              have n18_ := Z0.mk ((by rw [hg]; exact Nat.ne_of_gt (blk_lt (g := gb141) (o := .cells #[.int .i64 a0_0, .slice Ao45 t138.length co45, .int .i64 (wrap64 (a0_2 + a1_2)), u142003] 39 (0, 0)) (by (with_reducible repeat (first | refine bDN ?_ _ | refine bDr ?_ | refine bAl ?_ _)); exact BK141.out)) : gb149 ≠ gb141))
              have n19_ := Z0.mk ((by rw [hg]; exact Nat.ne_of_lt (blk_lt (g := gb143) (o := .cells #[.int .i64 ((rd_T71 l0_3 x48_2).f0), .int .i64 ((rd_T71 l0_3 x48_2).f1), .int .i64 ((rd_T71 l0_3 x48_2).f2)] 71 (0, 0)) (by (with_reducible repeat (first | refine bDN ?_ _ | refine bDr ?_ | refine bAl ?_ _)); exact BK143.out)) : gb143 ≠ gb149))
              have n20_ := Z0.mk ((by rw [hg]; exact Nat.ne_of_gt (blk_lt (g := gb143) (o := .cells #[.int .i64 ((rd_T71 l0_3 x48_2).f0), .int .i64 ((rd_T71 l0_3 x48_2).f1), .int .i64 ((rd_T71 l0_3 x48_2).f2)] 71 (0, 0)) (by (with_reducible repeat (first | refine bDN ?_ _ | refine bDr ?_ | refine bAl ?_ _)); exact BK143.out)) : gb149 ≠ gb143))
              clear HO_142001
              clear HO_142003
              clear BK134
              clear BK135
              clear BK136
              clear BK141
              clear BK143
              clear HB
              have HO_142001 := n0_
              have HO_142003 := n1_
              have BK134 := n2_
              have BK135 := n3_
              have BK136 := n4_
              have BK141 := n5_
              have BK143 := n6_
              have HB := n7_
              have BK149 := n8_
              have GW149 := n9_
              have GE149 := n10_
              have NB134_149 := n11_
              have NB149_134 := n12_
              have NB135_149 := n13_
              have NB149_135 := n14_
              have NB136_149 := n15_
              have NB149_136 := n16_
              have NB141_149 := n17_
              have NB149_141 := n18_
              have NB143_149 := n19_
              have NB149_143 := n20_
              clear n0_ n1_ n2_ n3_ n4_ n5_ n6_ n7_ n8_ n9_ n10_ n11_ n12_ n13_ n14_ n15_ n16_ n17_ n18_ n19_ n20_
              clear hb hbox hg
              refine hK.out _ _ ⟨(bCe BK143.out 0).trans rfl, (bCe BK143.out 1).trans rfl, (bCe BK143.out 2).trans rfl, (bCe BK135.out 0).trans rfl, (bCe BK135.out 1).trans rfl, (bCe BK135.out 2).trans rfl, (bCe BK135.out 3).trans rfl, ((HB.out.cell (World.block_lt_of_cell? w _ hw144_0)).trans hw144_0), ((HB.out.cell (World.block_lt_of_cell? w _ hw144_1)).trans hw144_1), ((HB.out.cell (World.block_lt_of_cell? w _ hw144_2)).trans hw144_2)⟩ (fun hHeld => ?_)
              clear hK K
              refine norm_ (a' := ?_) ?_ ?_
              rotate_left
              ·show Act.put _ (some 9) _ = _
               simp only [Act.put, qA, qB, qC, i64_w, i32_w]
               rfl
              refine one_ (i := 6) (N := some 60) #[true, true, true, true, true, true, true, false, false, false, true, false, false] rfl rfl (one_of HT_.out (by kernel_rfl)) (by decide) (fun K hK => ?_)
              refine goes_ Try.func43 (by kernel_rfl) rfl #[.agg #[.int .i64 ((rd_T71 l0_3 x48_2).f0), .int .i64 ((rd_T71 l0_3 x48_2).f1), .int .i64 ((rd_T71 l0_3 x48_2).f2)], .agg #[.int .i64 ((rd_T71 l1_3 x48_2).f0), .int .i64 ((rd_T71 l1_3 x48_2).f1), .int .i64 ((rd_T71 l1_3 x48_2).f2)]] (by rfl) rfl rfl (by (try simp only [List.map_toArray, List.map_cons, List.map_nil]); first | done | rfl | (simp only [List.length_drop, List.length_take]; rfl)) ?_
              with_reducible refine (agg_Join.calls k2 ((rd_T71 l0_3 x48_2).f0) ((rd_T71 l0_3 x48_2).f1) ((rd_T71 l0_3 x48_2).f2) ((rd_T71 l1_3 x48_2).f0) ((rd_T71 l1_3 x48_2).f1) ((rd_T71 l1_3 x48_2).f2) t145 t146 t147 t148 _ A56.out).mono ?_
              rintro e w95 ⟨rfl, hb⟩
              refine ⟨_, rfl, ?_⟩
              have n0_ := Z0.mk (Kd.R_below (by (with_reducible repeat (first | apply Kd.R_alloc | apply Kd.R_drewN | apply Kd.R_drew)); exact HO_142001.out) hb)
              have n1_ := Z0.mk (Kd.R_below (by (with_reducible repeat (first | apply Kd.R_alloc | apply Kd.R_drewN | apply Kd.R_drew)); exact HO_142003.out) hb)
              have n2_ := Z0.mk (blk_below (g := gb134) (o := .cells #[.int .i64 a0_0, .slice A0_1 l0_1.length c0_1, .int .i64 a0_2, .slice (some ad142) l0_3.length c0_3] 39 (0, 0)) (by (with_reducible repeat (first | refine bDN ?_ _ | refine bDr ?_ | refine bAl ?_ _)); exact BK134.out) hb)
              have n3_ := Z0.mk (blk_below (g := gb135) (o := .cells #[.int .i64 a1_0, .slice A1_1 l1_1.length c1_1, .int .i64 a1_2, .slice (some ad144) l1_3.length c1_3] 39 (0, 0)) (by (with_reducible repeat (first | refine bDN ?_ _ | refine bDr ?_ | refine bAl ?_ _)); exact BK135.out) hb)
              have n4_ := Z0.mk (blk_below (g := gb136) (o := .cells #[.int .i64 x137000_2, .slice none 0 0, .int .i64 x137002_2, .slice none 0 0] 39 (0, 0)) (by (with_reducible repeat (first | refine bDN ?_ _ | refine bDr ?_ | refine bAl ?_ _)); exact BK136.out) hb)
              have n5_ := Z0.mk (blk_below (g := gb141) (o := .cells #[.int .i64 a0_0, .slice Ao45 t138.length co45, .int .i64 (wrap64 (a0_2 + a1_2)), u142003] 39 (0, 0)) (by (with_reducible repeat (first | refine bDN ?_ _ | refine bDr ?_ | refine bAl ?_ _)); exact BK141.out) hb)
              have n6_ := Z0.mk (blk_below (g := gb143) (o := .cells #[.int .i64 ((rd_T71 l0_3 x48_2).f0), .int .i64 ((rd_T71 l0_3 x48_2).f1), .int .i64 ((rd_T71 l0_3 x48_2).f2)] 71 (0, 0)) (by (with_reducible repeat (first | refine bDN ?_ _ | refine bDr ?_ | refine bAl ?_ _)); exact BK143.out) hb)
              have n7_ := Z0.mk (blk_below (g := gb149) (o := .cells #[.int .i64 0, .int .i64 0, .int .i64 0] 71 (0, 0)) (by (with_reducible repeat (first | refine bDN ?_ _ | refine bDr ?_ | refine bAl ?_ _)); exact BK149.out) hb)
              have n8_ := Z0.mk (below_step (by repeat (first | (with_reducible first | exact HB.out | apply beA | apply bpN | apply bd1 | refine beS ?_ GE134.out | refine beS ?_ GE135.out | refine beS ?_ GE136.out | refine beS ?_ GE141.out | refine beS ?_ GE143.out | refine beS ?_ GE149.out) | exact HB.out)) hb)
              clear HO_142001
              clear HO_142003
              clear BK134
              clear BK135
              clear BK136
              clear BK141
              clear BK143
              clear BK149
              clear HB
              have HO_142001 := n0_
              have HO_142003 := n1_
              have BK134 := n2_
              have BK135 := n3_
              have BK136 := n4_
              have BK141 := n5_
              have BK143 := n6_
              have BK149 := n7_
              have HB := n8_
              clear n0_ n1_ n2_ n3_ n4_ n5_ n6_ n7_ n8_
              (try clear hb)
              (try clear hb2)
              (try clear hk)
              (try clear hi)
              refine hK.out _ _ ⟨(bCe BK143.out 0).trans rfl, (bCe BK143.out 1).trans rfl, (bCe BK143.out 2).trans rfl, (bCe BK135.out 0).trans rfl, (bCe BK135.out 1).trans rfl, (bCe BK135.out 2).trans rfl, (bCe BK135.out 3).trans rfl, ((HB.out.cell (World.block_lt_of_cell? w _ hw144_0)).trans hw144_0), ((HB.out.cell (World.block_lt_of_cell? w _ hw144_1)).trans hw144_1), ((HB.out.cell (World.block_lt_of_cell? w _ hw144_2)).trans hw144_2)⟩ (fun hHeld => ?_)
              clear hK K
              refine norm_ (a' := ?_) ?_ ?_
              rotate_left
              ·show Act.put _ (some 60) _ = _
               simp only [Act.put, qA, qB, qC, i64_w, i32_w]
               rfl
              refine pure_ (i := 7) (N := some 53) (v := ?_) (a' := ?_) #[true, true, true, true, true, true, true, true, false, false, true, false, false] rfl rfl (any_of HT_.out (by kernel_rfl)) (fun _ _ _ h => h) (Or.inl ⟨by rfl, ?_⟩) ?_ ?_
              rotate_left
              ·intro w'
               go_simp
               with_reducible rfl
              rotate_left
              ·simp only [Act.put, qA, qB, qC, i64_w, i32_w]
               rfl
              refine pure_ (i := 8) (N := some 61) (v := ?_) (a' := ?_) #[true, true, true, true, true, true, true, true, true, false, true, false, false] rfl rfl (any_of HT_.out (by kernel_rfl)) (fun _ _ _ h => h) (Or.inl ⟨by rfl, ?_⟩) ?_ ?_
              rotate_left
              ·intro w'
               go_simp
               with_reducible rfl
              rotate_left
              ·simp only [Act.put, qA, qB, qC, i64_w, i32_w]
               rfl
              refine pure_ (i := 9) (N := some 62) (v := ?_) (a' := ?_) #[true, true, true, true, true, true, true, true, true, true, true, false, false] rfl rfl (any_of HT_.out (by kernel_rfl)) (fun _ _ _ h => h) (Or.inl ⟨by rfl, ?_⟩) ?_ ?_
              rotate_left
              ·intro w'
               go_simp
               with_reducible rfl
              rotate_left
              ·simp only [Act.put, qA, qB, qC, i64_w, i32_w]
               rfl
              exact norm_ (by simp only [putAll, Act.put, qA, qB, qC]) (hCont (gb149) _ ⟨hHeld, (by (with_reducible repeat (first | apply Kd.R_alloc | apply Kd.R_drewN | apply Kd.R_drew)); exact HO_142001.out), (by (with_reducible repeat (first | apply Kd.R_alloc | apply Kd.R_drewN | apply Kd.R_drew)); exact HO_142003.out), (by (with_reducible repeat (first | refine bDN ?_ _ | refine bDr ?_ | refine bAl ?_ _)); exact BK134.out), (by (with_reducible repeat (first | refine bDN ?_ _ | refine bDr ?_ | refine bAl ?_ _)); exact BK135.out), (by (with_reducible repeat (first | refine bDN ?_ _ | refine bDr ?_ | refine bAl ?_ _)); exact BK136.out), (by (with_reducible repeat (first | refine bDN ?_ _ | refine bDr ?_ | refine bAl ?_ _)); exact BK141.out), (by (with_reducible repeat (first | refine bDN ?_ _ | refine bDr ?_ | refine bAl ?_ _)); exact BK143.out), (by (with_reducible repeat (first | refine bDN ?_ _ | refine bDr ?_ | refine bAl ?_ _)); exact BK149.out), GW149.out, GE149.out, NB134_149.out, NB149_134.out, NB135_149.out, NB149_135.out, NB136_149.out, NB149_136.out, NB141_149.out, NB149_141.out, NB143_149.out, NB149_143.out, (by repeat (first | (with_reducible first | exact HB.out | apply beA | apply bpN | apply bd1 | refine beS ?_ GE134.out | refine beS ?_ GE135.out | refine beS ?_ GE136.out | refine beS ?_ GE141.out | refine beS ?_ GE143.out | refine beS ?_ GE149.out) | exact HB.out))⟩)
            rintro gb149 w96 ⟨hS_, h0_, h1_, h2_, h3_, h4_, h5_, h6_, h7_, h8_, h9_, h10_, h11_, h12_, h13_, h14_, h15_, h16_, h17_, h18_, h19_, h20_⟩
            have n0_ : Z0 (Kd.R Kd.string 9 w96 w.heap.size (fun _ => True) (.slice Ao45 t138.length co45) t138) := ⟨h0_⟩
            have n1_ : Z0 (Kd.R k71 71 w96 w.heap.size (fun k_ => k_ ≠ gb143 ∧ k_ ≠ gb149) u142003 x142003_2) := ⟨h1_⟩
            have n2_ : Z0 (w96.heap[gb134]? = some (.cells #[.int .i64 a0_0, .slice A0_1 l0_1.length c0_1, .int .i64 a0_2, .slice (some ad142) l0_3.length c0_3] 39 (0, 0))) := ⟨h2_⟩
            have n3_ : Z0 (w96.heap[gb135]? = some (.cells #[.int .i64 a1_0, .slice A1_1 l1_1.length c1_1, .int .i64 a1_2, .slice (some ad144) l1_3.length c1_3] 39 (0, 0))) := ⟨h3_⟩
            have n4_ : Z0 (w96.heap[gb136]? = some (.cells #[.int .i64 x137000_2, .slice none 0 0, .int .i64 x137002_2, .slice none 0 0] 39 (0, 0))) := ⟨h4_⟩
            have n5_ : Z0 (w96.heap[gb141]? = some (.cells #[.int .i64 a0_0, .slice Ao45 t138.length co45, .int .i64 (wrap64 (a0_2 + a1_2)), u142003] 39 (0, 0))) := ⟨h5_⟩
            have n6_ : Z0 (w96.heap[gb143]? = some (.cells #[.int .i64 ((rd_T71 l0_3 x48_2).f0), .int .i64 ((rd_T71 l0_3 x48_2).f1), .int .i64 ((rd_T71 l0_3 x48_2).f2)] 71 (0, 0))) := ⟨h6_⟩
            have n7_ : Z0 (w96.heap[gb149]? = some (.cells #[.int .i64 0, .int .i64 0, .int .i64 0] 71 (0, 0))) := ⟨h7_⟩
            have n8_ : Z0 (w.heap.size ≤ gb149) := ⟨h8_⟩
            have n9_ : Z0 (w.heap.size ≤ gb149) := ⟨h9_⟩
            have n10_ : Z0 (gb134 ≠ gb149) := ⟨h10_⟩
            have n11_ : Z0 (gb149 ≠ gb134) := ⟨h11_⟩
            have n12_ : Z0 (gb135 ≠ gb149) := ⟨h12_⟩
            have n13_ : Z0 (gb149 ≠ gb135) := ⟨h13_⟩
            have n14_ : Z0 (gb136 ≠ gb149) := ⟨h14_⟩
            have n15_ : Z0 (gb149 ≠ gb136) := ⟨h15_⟩
            have n16_ : Z0 (gb141 ≠ gb149) := ⟨h16_⟩
            have n17_ : Z0 (gb149 ≠ gb141) := ⟨h17_⟩
            have n18_ : Z0 (gb143 ≠ gb149) := ⟨h18_⟩
            have n19_ : Z0 (gb149 ≠ gb143) := ⟨h19_⟩
            have n20_ : Z0 (Below w.heap.size w w96) := ⟨h20_⟩
            clear HO_142001
            clear HO_142003
            clear BK134
            clear BK135
            clear BK136
            clear BK141
            clear BK143
            clear HB
            clear h0_ h1_ h2_ h3_ h4_ h5_ h6_ h7_ h8_ h9_ h10_ h11_ h12_ h13_ h14_ h15_ h16_ h17_ h18_ h19_ h20_
            have HO_142001 := n0_
            have HO_142003 := n1_
            have BK134 := n2_
            have BK135 := n3_
            have BK136 := n4_
            have BK141 := n5_
            have BK143 := n6_
            have BK149 := n7_
            have GW149 := n8_
            have GE149 := n9_
            have NB134_149 := n10_
            have NB149_134 := n11_
            have NB135_149 := n12_
            have NB149_135 := n13_
            have NB136_149 := n14_
            have NB149_136 := n15_
            have NB141_149 := n16_
            have NB149_141 := n17_
            have NB143_149 := n18_
            have NB149_143 := n19_
            have HB := n20_
            clear n0_ n1_ n2_ n3_ n4_ n5_ n6_ n7_ n8_ n9_ n10_ n11_ n12_ n13_ n14_ n15_ n16_ n17_ n18_ n19_ n20_
            have hHeld : w96.cell? ⟨gb143, 0, none⟩ = some (.int .i64 ((rd_T71 l0_3 x48_2).f0)) ∧ w96.cell? ⟨gb143, 1, none⟩ = some (.int .i64 ((rd_T71 l0_3 x48_2).f1)) ∧ w96.cell? ⟨gb143, 2, none⟩ = some (.int .i64 ((rd_T71 l0_3 x48_2).f2)) ∧ w96.cell? ⟨gb135, 0, none⟩ = some (.int .i64 a1_0) ∧ w96.cell? ⟨gb135, 1, none⟩ = some (.slice A1_1 l1_1.length c1_1) ∧ w96.cell? ⟨gb135, 2, none⟩ = some (.int .i64 a1_2) ∧ w96.cell? ⟨gb135, 3, none⟩ = some (.slice (some ad144) l1_3.length c1_3) ∧ w96.cell? (ad144.add ((x48_2).toNat * 3)) = some (.int .i64 ((rd_T71 l1_3 x48_2).f0)) ∧ w96.cell? ⟨(ad144.add ((x48_2).toNat * 3)).block, (ad144.add ((x48_2).toNat * 3)).off + 1, none⟩ = some (.int .i64 ((rd_T71 l1_3 x48_2).f1)) ∧ w96.cell? ⟨(ad144.add ((x48_2).toNat * 3)).block, (ad144.add ((x48_2).toNat * 3)).off + 2, none⟩ = some (.int .i64 ((rd_T71 l1_3 x48_2).f2)) := hS_
            refine norm_ (a' := ?_) ?_ ?_
            rotate_left
            ·simp only [putAll, Act.put, qA, qB, qC]
             rfl
            refine one_ (i := 11) (N := none) #[true, true, true, true, true, true, true, true, true, true, true, true, false] rfl rfl (one_of HT_.out (by kernel_rfl)) (by decide) (fun K hK => ?_)
            have hs97 : w96.cell? ⟨gb149, 0, none⟩ = some (.int .i64 0) := (bCe BK149.out 0).trans rfl
            have hfs97 := bFz BK149.out 0
            have hns97_0 := NB134_149.out
            have hns97_1 := NB135_149.out
            have hns97_2 := NB136_149.out
            have hns97_3 := NB141_149.out
            have hns97_4 := NB143_149.out
            have hms97_0 := NB149_134.out
            have hms97_1 := NB149_135.out
            have hms97_2 := NB149_136.out
            have hms97_3 := NB149_141.out
            have hms97_4 := NB149_143.out
            have hs98 : w96.cell? ⟨gb149, 1, none⟩ = some (.int .i64 0) := (bCe BK149.out 1).trans rfl
            have hfs98 := bFz BK149.out 1
            have hns98_0 := NB134_149.out
            have hns98_1 := NB135_149.out
            have hns98_2 := NB136_149.out
            have hns98_3 := NB141_149.out
            have hns98_4 := NB143_149.out
            have hms98_0 := NB149_134.out
            have hms98_1 := NB149_135.out
            have hms98_2 := NB149_136.out
            have hms98_3 := NB149_141.out
            have hms98_4 := NB149_143.out
            have hs99 : w96.cell? ⟨gb149, 2, none⟩ = some (.int .i64 0) := (bCe BK149.out 2).trans rfl
            have hfs99 := bFz BK149.out 2
            have hns99_0 := NB134_149.out
            have hns99_1 := NB135_149.out
            have hns99_2 := NB136_149.out
            have hns99_3 := NB141_149.out
            have hns99_4 := NB143_149.out
            have hms99_0 := NB149_134.out
            have hms99_1 := NB149_135.out
            have hms99_2 := NB149_136.out
            have hms99_3 := NB149_141.out
            have hms99_4 := NB149_143.out
            refine skip_ (w1 := ?_) (by rfl) rfl ?_ ?_
            rotate_left
            ·go_simp
             rfl
            refine hK.out _ _ ⟨((cell_far (p := ⟨gb149, _, none⟩) NB143_149.out _).trans (((cell_far (p := ⟨gb149, _, none⟩) NB143_149.out _).trans (((cell_far (p := ⟨gb149, _, none⟩) NB143_149.out _).trans (hHeld.1)))))), ((cell_far (p := ⟨gb149, _, none⟩) NB143_149.out _).trans (((cell_far (p := ⟨gb149, _, none⟩) NB143_149.out _).trans (((cell_far (p := ⟨gb149, _, none⟩) NB143_149.out _).trans (hHeld.2.1)))))), ((cell_far (p := ⟨gb149, _, none⟩) NB143_149.out _).trans (((cell_far (p := ⟨gb149, _, none⟩) NB143_149.out _).trans (((cell_far (p := ⟨gb149, _, none⟩) NB143_149.out _).trans (hHeld.2.2.1)))))), ((cell_far (p := ⟨gb149, _, none⟩) NB135_149.out _).trans (((cell_far (p := ⟨gb149, _, none⟩) NB135_149.out _).trans (((cell_far (p := ⟨gb149, _, none⟩) NB135_149.out _).trans (hHeld.2.2.2.1)))))), ((cell_far (p := ⟨gb149, _, none⟩) NB135_149.out _).trans (((cell_far (p := ⟨gb149, _, none⟩) NB135_149.out _).trans (((cell_far (p := ⟨gb149, _, none⟩) NB135_149.out _).trans (hHeld.2.2.2.2.1)))))), ((cell_far (p := ⟨gb149, _, none⟩) NB135_149.out _).trans (((cell_far (p := ⟨gb149, _, none⟩) NB135_149.out _).trans (((cell_far (p := ⟨gb149, _, none⟩) NB135_149.out _).trans (hHeld.2.2.2.2.2.1)))))), ((cell_far (p := ⟨gb149, _, none⟩) NB135_149.out _).trans (((cell_far (p := ⟨gb149, _, none⟩) NB135_149.out _).trans (((cell_far (p := ⟨gb149, _, none⟩) NB135_149.out _).trans (hHeld.2.2.2.2.2.2.1)))))), ((cell_far (p := ⟨gb149, _, none⟩) (by first | exact Nat.ne_of_lt (Nat.lt_of_lt_of_le (by have := World.block_lt_of_cell? _ _ hw144_0; first | rwa [add_block] at this | exact this) GW149.out) | (rw [add_block]; exact Nat.ne_of_lt (Nat.lt_of_lt_of_le (by have := World.block_lt_of_cell? _ _ hw144_0; first | rwa [add_block] at this | exact this) GW149.out)) | (show (Addr.add _ _).block ≠ _; rw [add_block]; exact Nat.ne_of_lt (Nat.lt_of_lt_of_le (by have := World.block_lt_of_cell? _ _ hw144_0; first | rwa [add_block] at this | exact this) GW149.out)) | (dsimp only; exact Nat.ne_of_lt (Nat.lt_of_lt_of_le (by have := World.block_lt_of_cell? _ _ hw144_0; first | rwa [add_block] at this | exact this) GW149.out))) _).trans (((cell_far (p := ⟨gb149, _, none⟩) (by first | exact Nat.ne_of_lt (Nat.lt_of_lt_of_le (by have := World.block_lt_of_cell? _ _ hw144_0; first | rwa [add_block] at this | exact this) GW149.out) | (rw [add_block]; exact Nat.ne_of_lt (Nat.lt_of_lt_of_le (by have := World.block_lt_of_cell? _ _ hw144_0; first | rwa [add_block] at this | exact this) GW149.out)) | (show (Addr.add _ _).block ≠ _; rw [add_block]; exact Nat.ne_of_lt (Nat.lt_of_lt_of_le (by have := World.block_lt_of_cell? _ _ hw144_0; first | rwa [add_block] at this | exact this) GW149.out)) | (dsimp only; exact Nat.ne_of_lt (Nat.lt_of_lt_of_le (by have := World.block_lt_of_cell? _ _ hw144_0; first | rwa [add_block] at this | exact this) GW149.out))) _).trans (((cell_far (p := ⟨gb149, _, none⟩) (by first | exact Nat.ne_of_lt (Nat.lt_of_lt_of_le (by have := World.block_lt_of_cell? _ _ hw144_0; first | rwa [add_block] at this | exact this) GW149.out) | (rw [add_block]; exact Nat.ne_of_lt (Nat.lt_of_lt_of_le (by have := World.block_lt_of_cell? _ _ hw144_0; first | rwa [add_block] at this | exact this) GW149.out)) | (show (Addr.add _ _).block ≠ _; rw [add_block]; exact Nat.ne_of_lt (Nat.lt_of_lt_of_le (by have := World.block_lt_of_cell? _ _ hw144_0; first | rwa [add_block] at this | exact this) GW149.out)) | (dsimp only; exact Nat.ne_of_lt (Nat.lt_of_lt_of_le (by have := World.block_lt_of_cell? _ _ hw144_0; first | rwa [add_block] at this | exact this) GW149.out))) _).trans (hHeld.2.2.2.2.2.2.2.1)))))), ((cell_far (p := ⟨gb149, _, none⟩) (by first | exact Nat.ne_of_lt (Nat.lt_of_lt_of_le (by have := World.block_lt_of_cell? _ _ hw144_1; first | rwa [add_block] at this | exact this) GW149.out) | (rw [add_block]; exact Nat.ne_of_lt (Nat.lt_of_lt_of_le (by have := World.block_lt_of_cell? _ _ hw144_1; first | rwa [add_block] at this | exact this) GW149.out)) | (show (Addr.add _ _).block ≠ _; rw [add_block]; exact Nat.ne_of_lt (Nat.lt_of_lt_of_le (by have := World.block_lt_of_cell? _ _ hw144_1; first | rwa [add_block] at this | exact this) GW149.out)) | (dsimp only; exact Nat.ne_of_lt (Nat.lt_of_lt_of_le (by have := World.block_lt_of_cell? _ _ hw144_1; first | rwa [add_block] at this | exact this) GW149.out))) _).trans (((cell_far (p := ⟨gb149, _, none⟩) (by first | exact Nat.ne_of_lt (Nat.lt_of_lt_of_le (by have := World.block_lt_of_cell? _ _ hw144_1; first | rwa [add_block] at this | exact this) GW149.out) | (rw [add_block]; exact Nat.ne_of_lt (Nat.lt_of_lt_of_le (by have := World.block_lt_of_cell? _ _ hw144_1; first | rwa [add_block] at this | exact this) GW149.out)) | (show (Addr.add _ _).block ≠ _; rw [add_block]; exact Nat.ne_of_lt (Nat.lt_of_lt_of_le (by have := World.block_lt_of_cell? _ _ hw144_1; first | rwa [add_block] at this | exact this) GW149.out)) | (dsimp only; exact Nat.ne_of_lt (Nat.lt_of_lt_of_le (by have := World.block_lt_of_cell? _ _ hw144_1; first | rwa [add_block] at this | exact this) GW149.out))) _).trans (((cell_far (p := ⟨gb149, _, none⟩) (by first | exact Nat.ne_of_lt (Nat.lt_of_lt_of_le (by have := World.block_lt_of_cell? _ _ hw144_1; first | rwa [add_block] at this | exact this) GW149.out) | (rw [add_block]; exact Nat.ne_of_lt (Nat.lt_of_lt_of_le (by have := World.block_lt_of_cell? _ _ hw144_1; first | rwa [add_block] at this | exact this) GW149.out)) | (show (Addr.add _ _).block ≠ _; rw [add_block]; exact Nat.ne_of_lt (Nat.lt_of_lt_of_le (by have := World.block_lt_of_cell? _ _ hw144_1; first | rwa [add_block] at this | exact this) GW149.out)) | (dsimp only; exact Nat.ne_of_lt (Nat.lt_of_lt_of_le (by have := World.block_lt_of_cell? _ _ hw144_1; first | rwa [add_block] at this | exact this) GW149.out))) _).trans (hHeld.2.2.2.2.2.2.2.2.1)))))), ((cell_far (p := ⟨gb149, _, none⟩) (by first | exact Nat.ne_of_lt (Nat.lt_of_lt_of_le (by have := World.block_lt_of_cell? _ _ hw144_2; first | rwa [add_block] at this | exact this) GW149.out) | (rw [add_block]; exact Nat.ne_of_lt (Nat.lt_of_lt_of_le (by have := World.block_lt_of_cell? _ _ hw144_2; first | rwa [add_block] at this | exact this) GW149.out)) | (show (Addr.add _ _).block ≠ _; rw [add_block]; exact Nat.ne_of_lt (Nat.lt_of_lt_of_le (by have := World.block_lt_of_cell? _ _ hw144_2; first | rwa [add_block] at this | exact this) GW149.out)) | (dsimp only; exact Nat.ne_of_lt (Nat.lt_of_lt_of_le (by have := World.block_lt_of_cell? _ _ hw144_2; first | rwa [add_block] at this | exact this) GW149.out))) _).trans (((cell_far (p := ⟨gb149, _, none⟩) (by first | exact Nat.ne_of_lt (Nat.lt_of_lt_of_le (by have := World.block_lt_of_cell? _ _ hw144_2; first | rwa [add_block] at this | exact this) GW149.out) | (rw [add_block]; exact Nat.ne_of_lt (Nat.lt_of_lt_of_le (by have := World.block_lt_of_cell? _ _ hw144_2; first | rwa [add_block] at this | exact this) GW149.out)) | (show (Addr.add _ _).block ≠ _; rw [add_block]; exact Nat.ne_of_lt (Nat.lt_of_lt_of_le (by have := World.block_lt_of_cell? _ _ hw144_2; first | rwa [add_block] at this | exact this) GW149.out)) | (dsimp only; exact Nat.ne_of_lt (Nat.lt_of_lt_of_le (by have := World.block_lt_of_cell? _ _ hw144_2; first | rwa [add_block] at this | exact this) GW149.out))) _).trans (((cell_far (p := ⟨gb149, _, none⟩) (by first | exact Nat.ne_of_lt (Nat.lt_of_lt_of_le (by have := World.block_lt_of_cell? _ _ hw144_2; first | rwa [add_block] at this | exact this) GW149.out) | (rw [add_block]; exact Nat.ne_of_lt (Nat.lt_of_lt_of_le (by have := World.block_lt_of_cell? _ _ hw144_2; first | rwa [add_block] at this | exact this) GW149.out)) | (show (Addr.add _ _).block ≠ _; rw [add_block]; exact Nat.ne_of_lt (Nat.lt_of_lt_of_le (by have := World.block_lt_of_cell? _ _ hw144_2; first | rwa [add_block] at this | exact this) GW149.out)) | (dsimp only; exact Nat.ne_of_lt (Nat.lt_of_lt_of_le (by have := World.block_lt_of_cell? _ _ hw144_2; first | rwa [add_block] at this | exact this) GW149.out))) _).trans (hHeld.2.2.2.2.2.2.2.2.2))))))⟩ (fun hHeld => ?_)
            clear hK K
            refine pure_ (i := 12) (N := some 10) (v := ?_) (a' := ?_) #[true, true, true, true, true, true, true, true, true, true, true, true, true] rfl rfl (any_of HT_.out (by kernel_rfl)) (fun _ _ _ h => h) (Or.inl ⟨by rfl, ?_⟩) ?_ ?_
            rotate_left
            ·intro w'
             go_simp
             with_reducible rfl
            rotate_left
            ·simp only [Act.put, qA, qB, qC, i64_w, i32_w]
             rfl
            refine done_ (done_of HT_.out (by kernel_rfl)) ?_
            have hnb100 := NB136_134.out
            have hnc100 := NB134_136.out
            have hnb101 := NB136_135.out
            have hnc101 := NB135_136.out
            have hnb102 := NB136_141.out
            have hnc102 := NB141_136.out
            have hnb103 := NB136_149.out
            have hnc103 := NB149_136.out
            have hcz104_0 : w96.cell? ⟨gb136, 0, none⟩ = some (.int .i64 x137000_2) := (bCe BK136.out 0).trans rfl
            have hcz104_1 : w96.cell? ⟨gb136, 1, none⟩ = some (.slice none 0 0) := (bCe BK136.out 1).trans rfl
            have hcz104_2 : w96.cell? ⟨gb136, 2, none⟩ = some (.int .i64 x137002_2) := (bCe BK136.out 2).trans rfl
            have hcz104_3 : w96.cell? ⟨gb136, 3, none⟩ = some (.slice none 0 0) := (bCe BK136.out 3).trans rfl
            have hfz104_0 := bFz BK136.out 0
            have hfz104_1 := bFz BK136.out 1
            have hfz104_2 := bFz BK136.out 2
            have hfz104_3 := bFz BK136.out 3
            try go_wp2
            refine bodyPost_ret (results_ct rfl _ _ gb136 39 #[.int .i64 0, .slice none 0 0, .int .i64 0, .slice none 0 0] (0, 0) _ rfl (by (with_reducible repeat (first | refine bDN ?_ _ | refine bDr ?_ | refine bAl ?_ _)); refine blk_put (cs := #[.int .i64 0, .slice none 0 0, .int .i64 0, .slice none 0 0]) ?_ 3 _ rfl; (with_reducible repeat (first | refine bDN ?_ _ | refine bDr ?_ | refine bAl ?_ _)); refine blk_put (cs := #[.int .i64 0, .slice none 0 0, .int .i64 x137002_2, .slice none 0 0]) ?_ 2 _ rfl; (with_reducible repeat (first | refine bDN ?_ _ | refine bDr ?_ | refine bAl ?_ _)); refine blk_put (cs := #[.int .i64 0, .slice none 0 0, .int .i64 x137002_2, .slice none 0 0]) ?_ 1 _ rfl; (with_reducible repeat (first | refine bDN ?_ _ | refine bDr ?_ | refine bAl ?_ _)); refine blk_put (cs := #[.int .i64 x137000_2, .slice none 0 0, .int .i64 x137002_2, .slice none 0 0]) ?_ 0 _ rfl; (with_reducible repeat (first | refine bDN ?_ _ | refine bDr ?_ | refine bAl ?_ _)); refine blk_far ?_ NB136_149.out _; (with_reducible repeat (first | refine bDN ?_ _ | refine bDr ?_ | refine bAl ?_ _)); refine blk_far ?_ NB136_149.out _; (with_reducible repeat (first | refine bDN ?_ _ | refine bDr ?_ | refine bAl ?_ _)); refine blk_far ?_ NB136_149.out _; (with_reducible repeat (first | refine bDN ?_ _ | refine bDr ?_ | refine bAl ?_ _)); exact BK136.out) Try.underlying39 rfl (by kernel_rfl)) rfl ?_
            exact ⟨_, _, by first | rfl | (simp [errW_none, errW_some] <;> rfl) | (simp [*, errW_none, errW_some] <;> rfl), by first | exact Kd.R_nil _ _ _ _ _ | exact Kd.N_nil _ _ _ _ _ | exact Kd.V_nil _ _ _ _ _ | exact Kd.Q_nil _ _ _ _ _ | exact Kd.S_nil _ _ _ _ _, by first | exact Kd.R_nil _ _ _ _ _ | exact Kd.N_nil _ _ _ _ _ | exact Kd.V_nil _ _ _ _ _ | exact Kd.Q_nil _ _ _ _ _ | exact Kd.S_nil _ _ _ _ _, by repeat (first | (with_reducible first | exact HB.out | apply beA | apply bpN | apply bd1 | refine beS ?_ GE134.out | refine beS ?_ GE135.out | refine beS ?_ GE136.out | refine beS ?_ GE141.out | refine beS ?_ GE143.out | refine beS ?_ GE149.out) | exact HB.out)⟩
          ·rw [if_neg c55] at H
           exact absurd H (by simp)
         ·rw [if_neg c54] at H
          exact absurd H (by simp)
        ·rw [if_neg c53] at H
         exact absurd H (by simp)
       ·rw [if_neg c52] at H
        have c52b0 : decide (x48_2 < (l0_3.length : Int)) = false := decide_eq_false c52
        clear c52
        simp only [Option.some.injEq, Prod.mk.injEq] at H
        obtain ⟨rfl, rfl, rfl, rfl, rfl⟩ := H
        have hnb105 := NB141_134.out
        have hnc105 := NB134_141.out
        have hnb106 := NB141_135.out
        have hnc106 := NB135_141.out
        have hnb107 := NB141_136.out
        have hnc107 := NB136_141.out
        have hcz108_0 : wr.cell? ⟨gb141, 0, none⟩ = some (.int .i64 a0_0) := (bCe BK141.out 0).trans rfl
        have hcz108_1 : wr.cell? ⟨gb141, 1, none⟩ = some (.slice Ao45 t138.length co45) := (bCe BK141.out 1).trans rfl
        have hcz108_2 : wr.cell? ⟨gb141, 2, none⟩ = some (.int .i64 (wrap64 (a0_2 + a1_2))) := (bCe BK141.out 2).trans rfl
        have hcz108_3 : wr.cell? ⟨gb141, 3, none⟩ = some (u142003) := (bCe BK141.out 3).trans rfl
        have hfz108_0 := bFz BK141.out 0
        have hfz108_1 := bFz BK141.out 1
        have hfz108_2 := bFz BK141.out 2
        have hfz108_3 := bFz BK141.out 3
        have hnb109 := NB136_134.out
        have hnc109 := NB134_136.out
        have hnb110 := NB136_135.out
        have hnc110 := NB135_136.out
        have hcz111_0 : wr.cell? ⟨gb136, 0, none⟩ = some (.int .i64 x137000_2) := (bCe BK136.out 0).trans rfl
        have hcz111_1 : wr.cell? ⟨gb136, 1, none⟩ = some (.slice none 0 0) := (bCe BK136.out 1).trans rfl
        have hcz111_2 : wr.cell? ⟨gb136, 2, none⟩ = some (.int .i64 x137002_2) := (bCe BK136.out 2).trans rfl
        have hcz111_3 : wr.cell? ⟨gb136, 3, none⟩ = some (.slice none 0 0) := (bCe BK136.out 3).trans rfl
        have hfz111_0 := bFz BK136.out 0
        have hfz111_1 := bFz BK136.out 1
        have hfz111_2 := bFz BK136.out 2
        have hfz111_3 := bFz BK136.out 3
        obtain ⟨Ao112, co112, eo112⟩ := Kd.R_slice HO_142003.out
        subst eo112
        go_wp2
        refine bodyPost_ret (results_ct rfl _ _ gb136 39 #[.int .i64 a0_0, .slice Ao45 t138.length co45, .int .i64 (wrap64 (a0_2 + a1_2)), .slice Ao112 x142003_2.length co112] (0, 0) _ rfl (by (with_reducible repeat (first | refine bDN ?_ _ | refine bDr ?_ | refine bAl ?_ _)); refine blk_put (cs := #[.int .i64 a0_0, .slice Ao45 t138.length co45, .int .i64 (wrap64 (a0_2 + a1_2)), .slice none 0 0]) ?_ 3 _ rfl; (with_reducible repeat (first | refine bDN ?_ _ | refine bDr ?_ | refine bAl ?_ _)); refine blk_put (cs := #[.int .i64 a0_0, .slice Ao45 t138.length co45, .int .i64 x137002_2, .slice none 0 0]) ?_ 2 _ rfl; (with_reducible repeat (first | refine bDN ?_ _ | refine bDr ?_ | refine bAl ?_ _)); refine blk_put (cs := #[.int .i64 a0_0, .slice none 0 0, .int .i64 x137002_2, .slice none 0 0]) ?_ 1 _ rfl; (with_reducible repeat (first | refine bDN ?_ _ | refine bDr ?_ | refine bAl ?_ _)); refine blk_put (cs := #[.int .i64 x137000_2, .slice none 0 0, .int .i64 x137002_2, .slice none 0 0]) ?_ 0 _ rfl; (with_reducible repeat (first | refine bDN ?_ _ | refine bDr ?_ | refine bAl ?_ _)); exact BK136.out) Try.underlying39 rfl (by kernel_rfl)) rfl ?_
        exact ⟨_, _, by first | rfl | (simp [errW_none, errW_some] <;> rfl) | (simp [*, errW_none, errW_some] <;> rfl), by (with_reducible repeat (first | apply Kd.R_alloc | apply Kd.R_drewN | apply Kd.R_drew)); exact Kd.R_mono (Kd.R_far (p := ⟨gb136, 3, none⟩) (Kd.R_far (p := ⟨gb136, 2, none⟩) (Kd.R_far (p := ⟨gb136, 1, none⟩) (Kd.R_far (p := ⟨gb136, 0, none⟩) (Kd.R_types HO_142001.out BK136.out (by decide)) (fun _ hk => hk.2) (.int .i64 a0_0)) (fun _ hk => hk.2) (.slice Ao45 t138.length co45)) (fun _ hk => hk.2) (.int .i64 (wrap64 (a0_2 + a1_2)))) (fun _ hk => hk.2) (.slice Ao112 x142003_2.length co112)) (fun _ hk => trivial), by (with_reducible repeat (first | apply Kd.R_alloc | apply Kd.R_drewN | apply Kd.R_drew)); exact Kd.R_mono (Kd.R_far (p := ⟨gb136, 3, none⟩) (Kd.R_far (p := ⟨gb136, 2, none⟩) (Kd.R_far (p := ⟨gb136, 1, none⟩) (Kd.R_far (p := ⟨gb136, 0, none⟩) (Kd.R_types HO_142003.out BK136.out (by decide)) (fun _ hk => hk.2) (.int .i64 a0_0)) (fun _ hk => hk.2) (.slice Ao45 t138.length co45)) (fun _ hk => hk.2) (.int .i64 (wrap64 (a0_2 + a1_2)))) (fun _ hk => hk.2) (.slice Ao112 x142003_2.length co112)) (fun _ hk => trivial), by repeat (first | (with_reducible first | exact HB.out | apply beA | apply bpN | apply bd1 | refine beS ?_ GE134.out | refine beS ?_ GE135.out | refine beS ?_ GE136.out | refine beS ?_ GE141.out) | exact HB.out)⟩
end Go.Proofs.Ytdeeffahfkndkaa.P
