/- A part of the proof: lemmas and contracts of functions (printed or written by the session's program, and by hand), in dependency order. -/
import Derived.Shelf.Spec.SlicesGrow
import Derived.Ground.Names8Prog
import Derived.Test.YtdeeffahfkndkaaQOrder12
import Derived.Test.YtdeeffahfkndkaaQOrder15
import Derived.Test.YtdeeffahfkndkaaQOrder5
namespace Go.Proofs
open Go.Shelf
def Try.growRows_ren : Go.Shelf.Ren := ⟨fun | 4 => 45 | n => n, fun | 22 => 28 | 25 => 39 | 3 => 3 | 4 => 4 | 9 => 9 | 20 => 20 | 0 => 0 | n => n, fun | n => n⟩
theorem Try.growRows : Go.Proofs.Lays8.n4 Try.prog Try.growRows_ren := {
 mixed := by kernel_rfl
 f4 := ⟨Try.f45.name, by decide, Try.func45.trans (congrArg some (by kernel_rfl))⟩
 t0 := Try.underlying0
 a0 := Try.isAgg0
 z0 := Try.sizeOf0
 v0 := Try.zeroValue0
 t3 := Try.underlying3
 a3 := Try.isAgg3
 z3 := Try.sizeOf3
 v3 := Try.zeroValue3
 t4 := Try.underlying4
 a4 := Try.isAgg4
 z4 := Try.sizeOf4
 v4 := Try.zeroValue4
 t9 := Try.underlying9
 a9 := Try.isAgg9
 z9 := Try.sizeOf9
 v9 := Try.zeroValue9
 t20 := Try.underlying20
 a20 := Try.isAgg20
 z20 := Try.sizeOf20
 v20 := Try.zeroValue20
 t22 := Try.underlying28
 a22 := Try.isAgg28
 z22 := Try.sizeOf28
 v22 := Try.zeroValue28 }
end Go.Proofs
namespace Go.Proofs.Ytdeeffahfkndkaa.P
open Go.RowKit Go.Proofs.YtdeeffahfkndkaaW.PrintWords Go.Proofs.YtdeeffahfkndkaaW.PrintLast Go.Proofs.YtdeeffahfkndkaaW.PrintMore
set_option linter.unusedVariables false
set_option linter.unusedSimpArgs false
def RV.cells {w : World} (p : RV w) : List Value := [.int .i64 p.x.f0, .slice p.A1 p.x.f1.length p.c1, .int .i64 p.x.f2, .slice p.A3 p.x.f3.length p.c3]
def kRV (w : World) : Kd (RV w) where
 sz := 4
 E := []
 K := fun _ p c => c = p.cells
 M := fun _ _ _ p c => c = p.cells
 K_len := by rintro _ p _ rfl; rfl
 K_one := by rintro _ p _ rfl u hu; simp only [RV.cells, List.mem_cons, List.not_mem_nil, or_false] at hu; rcases hu with rfl | rfl | rfl | rfl <;> rfl
 K_below := by rintro _ _ _ _ _ rfl; rfl
 K_of_M := by rintro _ _ _ _ _ rfl; rfl
 M_mono := by rintro _ _ _ _ _ _ _ rfl; rfl
 M_bound := by rintro _ _ _ _ _ rfl; rfl
 M_move := by rintro _ _ _ _ _ _ _ rfl; rfl
 M_lower := by rintro _ _ _ _ _ _ _ rfl; rfl
theorem grow_calls (w0 w : World) (n : Nat) (hn : n < 1099511627776) : Calls Try.prog 45 #[.slice none 0 0, .int .i64 n] w fun e w' => ∃ v, e = .returned v ∧ (kRV w0).R 39 w' w.heap.size (fun _ => True) v [] ∧ Below w.heap.size w w' := by
 rcases Nat.eq_zero_or_pos n with h0 | h0
 ·subst h0
  have h := Any8.slices_Grow_room Try.growRows none 0 0 0 w (Nat.le_refl _) (by decide) (by decide) (by decide)
  change Calls Try.prog 45 _ _ _ at h
  refine h.mono ?_
  rintro e w' ⟨rfl, rfl⟩
  exact ⟨_, rfl, Kd.R_nil _ _ _ _ _, Below.refl _ _⟩
 ·obtain ⟨i0, hi0, hz, hsz, hby⟩ := info_parts info39
  have h := Any8.slices_Grow_grow Try.growRows i0 (.agg #[.int .i64 0, .slice none 0 0, .int .i64 0, .slice none 0 0]) hi0 hz (by rw [hsz]; decide) none 0 0 n [] w (Nat.le_refl _) (by omega) (by rw [hby]; omega) (by omega) (by simp) (fun _ => rfl) (fun a h => by cases h)
  change Calls Try.prog 45 _ _ _ at h
  refine h.mono ?_
  rintro e w' ⟨rfl, hw⟩
  have hcap := grownCap_le_maxLen w (0 + n) 0 39 (by unfold maxLen; omega)
  have hge : 0 + n ≤ grownCap w (0 + n) 0 39 := grownCap_ge w _ _ _
  have hb : w'.heap[w.heap.size]? = some (.cells (([] : List Value).toArray ++ Builtin.zeroCells (Value.agg #[.int .i64 0, .slice none 0 0, .int .i64 0, .slice none 0 0]).cells (0 + n - 0) ++ Builtin.zeroCells (Value.agg #[.int .i64 0, .slice none 0 0, .int .i64 0, .slice none 0 0]).cells (grownCap w (0 + n) 0 39 - (0 + n))) 39 (0, 0)) := by rw [hw]; exact blk_new w.drew _
  refine ⟨_, rfl, ⟨fun _ _ => trivial, [], ⟨by simp, .inr ⟨w.heap.size, grownCap w (0 + n) 0 39, _, rfl, Nat.le_refl _, hb, Nat.zero_le _, hcap, ?_, by simp⟩⟩, Reps.none _ _⟩, ?_⟩
  ·have hcz : (Value.agg #[.int .i64 0, .slice none 0 0, .int .i64 0, .slice none 0 0]).cells.size = 4 := rfl
   show _ = grownCap w (0 + n) 0 39 * 4
   simp only [Array.size_append, List.size_toArray, size_zeroCells, hcz, List.length_nil]
   omega
  ·rw [hw]; exact beA (below_drew (Below.refl _ _)) _
end Go.Proofs.Ytdeeffahfkndkaa.P
namespace Go.Proofs.Ytdeeffahfkndkaa.P
open Go.RowKit Go.Proofs.YtdeeffahfkndkaaW.PrintWords Go.Proofs.YtdeeffahfkndkaaW.PrintLast Go.Proofs.YtdeeffahfkndkaaW.PrintMore
set_option linter.unusedVariables false
set_option linter.unusedSimpArgs false
theorem rv_rows {w W : World} {A : Option Addr} {x : List Row} (hC : Kd.C k39 w A x.length x) (hok : rows_Copy.ok x = true) (hb : Below w.heap.size w W) : ∃ zs : List (RV w), zs.map (·.x) = x ∧ ReadsRow (fun p c => c = p.cells) 4 W A x.length zs := by
 have hfit : ∀ r ∈ x, r.f1.length < 8796093022208 ∧ r.f3.length < 5864062014805 := fun r hr => by simp only [rows_Copy.ok, Bool.and_eq_true, List.all_eq_true, decide_eq_true_eq] at hok; exact hok.2 r hr
 cases x with
 | nil => exact ⟨[], rfl, rfl, by decide, fun hp => absurd hp (by decide)⟩
 | cons y t =>
  obtain ⟨ad, e, hc⟩ := hC.2.2 (by simp)
  subst e
  obtain ⟨zs, h1, h2⟩ := list_choose (f := fun p : RV w => p.x) (y :: t) (fun j p => ∀ i u, p.cells[i]? = some u → w.cell? (ad.add (j * 4 + i)) = some u) (fun j r hj => by
   obtain ⟨cl, _, hk, hcc⟩ := hc j r hj
   obtain ⟨A1, c1, A3, c3, rfl, l1, g1, l3, g3⟩ := k39_open hk
   obtain ⟨q1, q3⟩ := hfit r (List.mem_of_getElem? hj)
   exact ⟨⟨r, A1, c1, A3, c3, l1, g1, l3, g3, q1, q3⟩, rfl, hcc⟩)
  refine ⟨zs, h1, by rw [← h1, List.length_map], (copyOk_rows hok).2, fun _ => ⟨ad, rfl, fun j p hj => ⟨p.cells, rfl, rfl, fun i u hu => ?_⟩⟩⟩
  have h3 := h2 j p hj i u hu
  exact (hb.cell (World.block_lt_of_cell? w _ h3)).trans h3
def sumL (l : List (List Row)) : Nat := (l.map (·.length)).sum
theorem sumL_snoc (l : List (List Row)) (x : List Row) : sumL (l ++ [x]) = sumL l + x.length := by simp [sumL]
theorem sumL_take (l : List (List Row)) (i : Nat) : sumL (l.take i) ≤ sumL l := by
 have : sumL l = sumL (l.take i) + sumL (l.drop i) := by
  unfold sumL
  rw [← List.sum_append, ← List.map_append, List.take_append_drop]
 omega
set_option maxHeartbeats 2000000 in
set_option maxRecDepth 100000 in
theorem concat_calls (w : World) (A : Option Addr) (c : Nat) (l : List (List Row)) (hC : Kd.C (Kd.slice 39 k39) w A l.length l) (hc : l.length ≤ c) (hok : ListsOk l) (hs : sumL l < 1099511627776) :
  Calls Try.prog 22 #[.slice A l.length c] w fun e w' => ∃ (v : Value) (zs : List (RV w)), e = .returned v ∧ zs.map (·.x) = l.flatten ∧ (kRV w).R 39 w' w.heap.size (fun _ => True) v zs ∧ Below w.heap.size w w' := by
 have HC := Z0.mk hC
 have HOK := Z0.mk hok
 have HS := Z0.mk hs
 have hlen : l.length < 1099511627776 := hok.1
 clear hC hok hs
 go_enter Try.func22, Try.ntmps22
 go_wp2
 go_loopg [3, 11] (l.length + 1) (fun kq1 v3 v11 w' => ∃ i : Nat, v3 = .int .i64 ((sumL (l.take i) : Nat) : Int) ∧ v11 = .int .i64 (i : Int) ∧ l.length < kq1 + i ∧ i ≤ l.length ∧ Z0 (Below w.heap.size w w'))
 case atStart => exact ⟨0, rfl, rfl, by omega, Nat.zero_le _, ⟨Below.refl _ _⟩⟩
 case round =>
  obtain ⟨i, rfl, rfl, hik, hil, HB⟩ := hrel
  cases gk with
  | zero => exact absurd hik (by omega)
  | succ k1 =>
   by_cases hlt : i < l.length
   ·obtain ⟨ad, A0, c0, rfl, hcell, hle, hx⟩ := at_L6 (Kd.C_below HC.out HB.out) (i : Int) (by omega) (by omega)
    have hb1 : decide ((i : Int) < (l.length : Int)) = true := decide_eq_true (by omega)
    have er : rd_L6 l (i : Int) = l[i] := by simp [rd_L6, List.getElem?_eq_getElem hlt]
    rw [er] at hcell hle hx
    rw [Int.toNat_natCast] at hcell
    have htk : l.take (i + 1) = l.take i ++ [l[i]] := by rw [List.take_append_getElem]
    have hsm : sumL (l.take (i + 1)) = sumL (l.take i) + l[i].length := by rw [htk, sumL_snoc]
    have hle2 := sumL_take l (i + 1)
    have hs := HS.out
    generalize l[i] = x at hcell hle hsm
    obtain ⟨s0, hs0⟩ : ∃ s0, s0 = sumL (l.take i) := ⟨_, rfl⟩
    obtain ⟨s1, hs1⟩ : ∃ s1, s1 = sumL (l.take (i + 1)) := ⟨_, rfl⟩
    rw [← hs0, ← hs1] at hsm
    rw [← hs1] at hle2
    rw [← hs0]
    have hw : IntKind.i64.wrap ((s0 : Int) + (x.length : Int)) = (s1 : Int) := by rw [i64_w]; exact (IntWalk.wrap64_in _ ⟨by omega, by omega⟩).trans (by omega)
    have hneg : decide ((s1 : Int) < 0) = false := decide_eq_false (by omega)
    have HS1 := Z0.mk hs1
    clear hx er htk hs0 hs1 hsm hle2 hs
    go_wp2
    go_roundg k1
    case measure => exact Nat.lt_succ_self _
    case rel => exact ⟨i + 1, by rw [HS1.out], rfl, by omega, by omega, HB⟩
   ·obtain rfl : i = l.length := by omega
    have hb1 : decide (((l.length : Nat) : Int) < (l.length : Int)) = false := decide_eq_false (by omega)
    have hs := HS.out
    have ht : l.take l.length = l := List.take_length
    rw [ht]
    obtain ⟨sz, hsz⟩ : ∃ sz, sz = sumL l := ⟨_, rfl⟩
    rw [← hsz] at hs ⊢
    have HSZ := Z0.mk hsz
    clear ht hsz
    go_wp2_with (go_at_call 45; refine (grow_calls w _ sz hs).mono ?_; rintro e w1 ⟨v, rfl, hR, hb⟩; obtain ⟨Av, cv, ev⟩ := Kd.R_slice hR; subst ev; have HR := Z0.mk (Kd.R_lower hR HB.out.size); have HB1 := Z0.mk (below_then HB.out hb); clear hR hb)
    have H0 : Z0 (∃ zs : List (RV w), zs = [] ∧ zs.map (·.x) = (l.take 0).flatten ∧ (kRV w).R 39 w1 w.heap.size (fun _ => True) (.slice Av zs.length cv) zs ∧ Below w.heap.size w w1) := ⟨[], rfl, rfl, HR.out, HB1.out⟩
    clear HR HB1 hik hlt hb1
    go_loopg [6, 27] (l.length + 1) (fun kq2 v6 v27 w' => ∃ (i : Nat) (zs : List (RV w)) (Ao : Option Addr) (co : Nat), v6 = .slice Ao zs.length co ∧ v27 = .int .i64 (i : Int) ∧ l.length < kq2 + i ∧ i ≤ l.length ∧ Z0 (zs.map (·.x) = (l.take i).flatten ∧ (kRV w).R 39 w' w.heap.size (fun _ => True) (.slice Ao zs.length co) zs ∧ Below w.heap.size w w'))
    case atStart =>
     obtain ⟨zs, rfl, h1, h2, h3⟩ := H0.out
     exact ⟨0, [], Av, cv, rfl, rfl, by omega, Nat.zero_le _, ⟨h1, h2, h3⟩⟩
    case round =>
     clear H0
     obtain ⟨i, zs, Ao, co, rfl, rfl, hik, hil, HI⟩ := hrel
     cases gk with
     | zero => exact absurd hik (by omega)
     | succ k2 =>
      by_cases hlt : i < l.length
      ·obtain ⟨ad, A0, c0, rfl, hcell, hle, hx⟩ := at_L6 (Kd.C_below HC.out HI.out.2.2) (i : Int) (by omega) (by omega)
       obtain ⟨ad', A0', c0', ea, hcell', _, hx'⟩ := at_L6 HC.out (i : Int) (by omega) (by omega)
       injection ea with ea
       subst ea
       obtain ⟨rfl, rfl⟩ : A0 = A0' ∧ c0 = c0' := by
        have h1 := (HI.out.2.2.cell (World.block_lt_of_cell? w _ hcell')).trans hcell'
        rw [hcell] at h1
        injection h1 with h1
        injection h1 with h1 _ h2
        exact ⟨h1, h2⟩
       have hb1 : decide ((i : Int) < (l.length : Int)) = true := decide_eq_true (by omega)
       have er : rd_L6 l (i : Int) = l[i] := by simp [rd_L6, List.getElem?_eq_getElem hlt]
       rw [er] at hcell hle hx'
       rw [Int.toNat_natCast] at hcell
       have htk : l.take (i + 1) = l.take i ++ [l[i]] := by rw [List.take_append_getElem]
       obtain ⟨ys, hy, hrr⟩ := rv_rows hx' (HOK.out.2 _ (List.getElem_mem hlt)) HI.out.2.2
       have hfl : (zs ++ ys).map (·.x) = (l.take (i + 1)).flatten := by rw [htk, List.map_append, HI.out.1, hy, List.flatten_append]; simp
       have hsum : (zs.length + l[i].length) ≤ sumL l := by
        have h1 := congrArg List.length hfl
        have h2 := sumL_take l (i + 1)
        rw [List.length_flatten] at h1
        rw [List.map_append, List.length_append, List.length_map, List.length_map] at h1
        have h3 := congrArg List.length hy
        rw [List.length_map] at h3
        replace h1 : zs.length + ys.length = sumL (l.take (i + 1)) := h1
        omega
       have hyl : ys.length = l[i].length := by have h3 := congrArg List.length hy; rwa [List.length_map] at h3
       generalize l[i] = x at hcell hle hrr hsum hyl
       have HRR := Z0.mk hrr
       have HFL := Z0.mk hfl
       have HSU := Z0.mk hsum
       have HYL := Z0.mk hyl
       clear hx hx' er htk hfl hrr hy hsum hyl hcell'
       go_wp2_with (first | (at_builtin; refine Kd.R_append_rows (kRV w) (Rr := fun p c => c = p.cells) (w0 := w) w.heap.size rfl (.tmp 31) (.tmp 32) 28 39 (.agg #[.int .i64 0, .slice none 0 0, .int .i64 0, .slice none 0 0]) 64 rfl Try.underlying28 info39 rfl (Nat.succ_pos 3) (by decide) (.slice Ao zs.length co) zs ys A0 x.length c0 (fun _ => True) (fun _ => False) rfl rfl HI.out.2.1 HRR.out (fun _ _ h => h) (fun _ h => h.elim) (fun _ _ => trivial) HI.out.2.2 HI.out.2.2.size (by have h1 := HSU.out; have h2 := HS.out; omega) ?_; rintro v9 w9 hR9 hB9 hg9 hat9; obtain ⟨A9, c9, e9⟩ := Kd.R_slice hR9; subst e9; have HR9 := Z0.mk hR9; have HB9 := Z0.mk hB9; clear hR9 hB9 hg9 hat9))
       go_roundg k2
       case measure => exact Nat.lt_succ_self _
       case rel => exact ⟨i + 1, zs ++ ys, A9, c9, by simp, by simp, by omega, by omega, ⟨HFL.out, HR9.out, HB9.out⟩⟩
      ·obtain rfl : i = l.length := by omega
       have hb1 : decide (((l.length : Nat) : Int) < (l.length : Int)) = false := decide_eq_false (by omega)
       go_wp2
       go_ret
       have h1 := HI.out.1
       rw [List.take_length] at h1
       exact ⟨_, zs, rfl, h1, HI.out.2.1, HI.out.2.2⟩
end Go.Proofs.Ytdeeffahfkndkaa.P
namespace Go.Proofs.Ytdeeffahfkndkaa.P
open Go.RowKit Go.Proofs.YtdeeffahfkndkaaW.PrintWords Go.Proofs.YtdeeffahfkndkaaW.PrintLast Go.Proofs.YtdeeffahfkndkaaW.PrintMore
set_option linter.unusedVariables false
set_option linter.unusedSimpArgs false
set_option maxHeartbeats 2000000 in
set_option maxRecDepth 100000 in
theorem clone_calls (w W : World) (A : Option Addr) (c : Nat) (zs : List (RV w)) (hb : Below w.heap.size w W) (hR : (kRV w).R 39 W w.heap.size (fun _ => True) (.slice A zs.length c) zs) (hl : zs.length < 1099511627776) :
  Calls Try.prog 28 #[.slice A zs.length c] W fun e w' => ∃ v : Value, e = .returned v ∧ (kRV w).R 39 w' w.heap.size (fun _ => True) v zs ∧ Below w.heap.size w w' := by
 have qT : ∀ (w : World) (a : Option Addr) (n c n' c' : Nat), (binOp .eql 28 (.slice a n c) (.slice none n' c')).run Try.prog w = .ok (.bool a.isNone) w := fun w a n c n' c' => Lib.run_eql_slice_nil w _ _ a n c n' c' Try.underlying28
 have hC : (kRV w).C W A zs.length zs := (Kd.R_reads' hR).2.2
 have hbs := hb.size
 cases A with
 | none =>
  obtain ⟨_, hz⟩ := C_none hC
  subst hz
  have HB := Z0.mk hb
  clear hC hR hb
  go_enter Try.func28, Try.ntmps28
  go_wp2
  go_ret
  exact ⟨_, rfl, Kd.R_nil _ _ _ _ _, HB.out⟩
 | some ad =>
  have HC := Z0.mk hC
  have HL := Z0.mk hl
  have HB0 := Z0.mk hb
  clear hC hR hb hl
  go_enter Try.func28, Try.ntmps28
  go_wp2_with (at_builtin; refine Kd.R_append_rows (kRV w) (Rr := fun p c => c = p.cells) (w0 := w) w.heap.size rfl (.tmp 5) (.tmp 6) 28 39 (.agg #[.int .i64 0, .slice none 0 0, .int .i64 0, .slice none 0 0]) 64 rfl Try.underlying28 info39 rfl (Nat.succ_pos 3) (by decide) (.slice (some ⟨W.heap.size, 0, none⟩) 0 0) [] zs (some ad) zs.length c (fun _ => True) (fun _ => False) rfl rfl (R_empty _ _ _ _ _ hbs trivial) ?aC (fun _ _ h => h) (fun _ hk => hk.elim) (fun _ _ => trivial) (beA HB0.out _) ?aS ?aL ?_; (case aC => exact (Kd.C_below HC.out (beA (Below.refl _ _) _))); (case aS => exact (beA HB0.out _).size); (case aL => have := HL.out; simp; omega); intro v1 w1 ho hb hg hat; have HO := Z0.mk ho; have HB := Z0.mk hb; clear ho hb hg hat; rw [List.nil_append] at HO)
  go_ret
  exact ⟨_, rfl, HO.out, HB.out⟩
end Go.Proofs.Ytdeeffahfkndkaa.P
namespace Go.Proofs.Ytdeeffahfkndkaa.P
open Go.RowKit Go.Proofs.YtdeeffahfkndkaaW.PrintWords Go.Proofs.YtdeeffahfkndkaaW.PrintLast Go.Proofs.YtdeeffahfkndkaaW.PrintMore
set_option linter.unusedVariables false
set_option linter.unusedSimpArgs false
def RV.val {w : World} (p : RV w) : Value := .agg #[.int .i64 p.x.f0, .slice p.A1 p.x.f1.length p.c1, .int .i64 p.x.f2, .slice p.A3 p.x.f3.length p.c3]
set_option maxHeartbeats 2000000 in
set_option maxRecDepth 100000 in
theorem same_calls (w W : World) (p q : RV w) (hb : Below w.heap.size w W) :
  Calls Try.prog 29 #[p.val, q.val] W fun e w' => e = .returned (.bool (cmpRow p.x q.x == 0)) ∧ Below W.heap.size W w' := by
 have HC : Z0 (∀ W', Below W.heap.size W W' → Calls Try.prog 19 #[p.val, q.val] W' fun e w' => e = .returned (.int .i64 (cmpRow p.x q.x)) ∧ Below W'.heap.size W' w') := ⟨fun W' hW => (compare_grows W' p.x q.x p.A1 p.c1 p.A3 p.c3 q.A1 q.c1 q.A3 q.c3 (by have := p.b1; omega) p.l1 (Kd.C_below p.g1 (below_then hb hW)) q.l1 (Kd.C_below q.g1 (below_then hb hW))).mono fun _ _ h => ⟨h.1, h.2.below⟩⟩
 generalize cmpRow p.x q.x = t at HC ⊢
 unfold RV.val at HC ⊢
 go_enter Try.func29, Try.ntmps29
 go_wp2_with (go_at_call 19; refine (HC.out _ (beA (beA (Below.refl _ _) _) _)).mono ?_; rintro e w1 ⟨rfl, hb1⟩)
 go_ret
 exact ⟨rfl, below_then (beA (beA (Below.refl _ _) _) _) hb1⟩
end Go.Proofs.Ytdeeffahfkndkaa.P
namespace Go.Proofs.Ytdeeffahfkndkaa.P
open Go.RowKit Go.Proofs.YtdeeffahfkndkaaW.PrintWords Go.Proofs.YtdeeffahfkndkaaW.PrintLast Go.Proofs.YtdeeffahfkndkaaW.PrintMore
set_option linter.unusedVariables false
set_option linter.unusedSimpArgs false
theorem runs_snoc : ∀ (l : List Row) (a b : Row), runsN (l ++ [a, b]) = runsN (l ++ [a]) + (if cmpRow a b = 0 then 0 else 1)
 | [], a, b => by show (if cmpRow a b = 0 then 0 else 1) + 1 = 1 + _; omega
 | [c], a, b => by
  show (if cmpRow c a = 0 then 0 else 1) + ((if cmpRow a b = 0 then 0 else 1) + 1) = (if cmpRow c a = 0 then 0 else 1) + 1 + _
  omega
 | c :: d :: t, a, b => by
  have ih := runs_snoc (d :: t) a b
  show (if cmpRow c d = 0 then 0 else 1) + runsN (d :: t ++ [a, b]) = (if cmpRow c d = 0 then 0 else 1) + runsN (d :: t ++ [a]) + _
  omega
def runsT {w : World} (zs : List (RV w)) (k : Nat) : Nat := runsN ((zs.take k).map (·.x))
theorem runsT_one {w : World} {zs : List (RV w)} (h : 1 ≤ zs.length) : runsT zs 1 = 1 := by
 match zs, h with
 | z :: t, _ => rfl
theorem runsT_step {w : World} {zs : List (RV w)} {m : Nat} {p q : RV w} (hp : zs[m + 1]? = some p) (hq : zs[m]? = some q) : runsT zs (m + 2) = runsT zs (m + 1) + (if cmpRow p.x q.x = 0 then 0 else 1) := by
 have h1 : zs.take (m + 1) = zs.take m ++ [q] := by rw [List.take_add_one, hq]; rfl
 have h2 : zs.take (m + 2) = zs.take m ++ [q, p] := by rw [List.take_add_one, hp, h1]; simp
 unfold runsT
 rw [h1, h2, List.map_append, List.map_append]
 show runsN (_ ++ [q.x, p.x]) = runsN (_ ++ [q.x]) + _
 rw [runs_snoc]
 by_cases hz : cmpRow p.x q.x = 0
 ·rw [if_pos hz, if_pos (cmp_zero_swap.1 hz)]
 ·rw [if_neg hz, if_neg (fun h => hz (cmp_zero_swap.1 h))]
theorem goes_v {P : Program} {ops : Array Oper} {Q : Exit → Act → World → Prop} {oi : Oper} {N : Option Tmp} {a : Act} {w : World} {K : Act → World → Prop} {f : FuncId} {fn : Func} {as_ : Array Operand} {ts : Array TypeId} (t : Operand) (hf : P.funcs[f]? = some fn) (hname : (fn.name == "runtime.NumGoroutine") = false) (hb : fn.body.isSome = true) (args : Array Value)
  (hw : Region.wanted oi (yielded ops a.tmps) = true) (hN : oi.dst = N) (hop : oi.op = .call { callee := .value t, args := as_, argTypes := ts }) (ht : a.eval t = .func (.func f) #[] #[]) (hargs : as_.map a.eval = args)
  (h : Calls P f args w fun e w' => ∃ v, e = .returned v ∧ K (a.put N v) w') : if Region.wanted oi (yielded ops a.tmps) = true then Oper.wp P oi a w K Q else K (a.put N undef) w := by
 refine call_ f args hw hN ?_ h
 have he := enters_ hf hname hb args w
 unfold execOp
 simp [hop, ht, resolve, Deferred.ofValue, invoke, hargs, he]
theorem run_clear_rows {P : Program} (w : World) (t e ty : TypeId) (z : Value) (ht : P.underlying t = some (.slice e)) (hv : ∀ w, (zeroValue e).run P w = .ok z w) (h1 : ∀ n, ∀ v ∈ (Builtin.zeroCells z.cells n).toList, v.oneCell' = true) (b o n c : Nat) (hn : 0 < n)
  (hc : ∀ j, j < n * z.cells.size → (w.cell? ⟨b, o + j, none⟩).isSome = true) (hf : ∀ j, w.frozen? ⟨b, o + j, none⟩ = false) :
  (Builtin.clear_ #[t] ty #[.slice (some ⟨b, o, none⟩) n c]).run P w = .ok (.tuple #[]) (w.setCells b o (Builtin.zeroCells z.cells n).toList) := by
 have hst := run_storeCells_cells (P := P) b o (Builtin.zeroCells z.cells n).toList 0 w (fun j hj => by rw [Array.length_toList, size_zeroCells] at hj; simpa using hc j hj) (fun j _ => by simpa using hf j) (h1 n)
 simp only [Nat.add_zero] at hst
 obtain ⟨m, rfl⟩ : ∃ m, n = m + 1 := ⟨n - 1, by omega⟩
 simp [Builtin.clear_, run_underlying ht, hv, hst]
def Cell4 {w : World} (g a : Nat) (p : RV w) (W : World) : Prop := W.cell? ⟨g, a, none⟩ = some (.int .i64 p.x.f0) ∧ W.cell? ⟨g, a + 1, none⟩ = some (.slice p.A1 p.x.f1.length p.c1) ∧ W.cell? ⟨g, a + 2, none⟩ = some (.int .i64 p.x.f2) ∧ W.cell? ⟨g, a + 3, none⟩ = some (.slice p.A3 p.x.f3.length p.c3)
theorem rv_at {w W : World} {base : Nat} {ok : Nat → Prop} {g n c : Nat} {zs : List (RV w)} (hR : (kRV w).R 39 W base ok (.slice (some ⟨g, 0, none⟩) n c) zs) (i : Nat) {p : RV w} (hp : zs[i]? = some p) : Cell4 g (i * 4) p W ∧ ∀ j, W.frozen? ⟨g, j, none⟩ = false := by
 have hn : n = zs.length := (Kd.R_reads' hR).1
 have hi : i < zs.length := (List.getElem?_eq_some_iff.1 hp).1
 obtain ⟨cl, _, hM, hcc, _⟩ := Kd.R_elem hR p (i : Int) (by omega) (by omega)
 rw [Int.toNat_natCast] at hM hcc
 have hM' : cl = (zs.getD i p).cells := hM
 rw [List.getD_eq_getElem?_getD, hp] at hM'
 subst hM'
 obtain ⟨inner, hown⟩ := Kd.R_own hR
 obtain ⟨cells, hb⟩ := own_typed hown g (by simp [Value.ownBlock])
 exact ⟨⟨hcc 0 _ rfl, hcc 1 _ rfl, hcc 2 _ rfl, hcc 3 _ rfl⟩, fun j => bFz hb j⟩
theorem Cell4.below {w : World} {g a : Nat} {p : RV w} {W W' : World} (h : Cell4 g a p W) (hb : Below W.heap.size W W') : Cell4 g a p W' := by
 have hg : g < W.heap.size := World.block_lt_of_cell? _ _ h.1
 exact ⟨(hb.cell (p := ⟨g, a, none⟩) hg).trans h.1, (hb.cell (p := ⟨g, a + 1, none⟩) hg).trans h.2.1, (hb.cell (p := ⟨g, a + 2, none⟩) hg).trans h.2.2.1, (hb.cell (p := ⟨g, a + 3, none⟩) hg).trans h.2.2.2⟩
theorem rv_put {w W : World} {base : Nat} {ok : Nat → Prop} {g n c : Nat} {zs : List (RV w)} (hR : (kRV w).R 39 W base ok (.slice (some ⟨g, 0, none⟩) n c) zs) (i : Nat) {o : RV w} (hp : zs[i]? = some o) (p : RV w) :
  (kRV w).R 39 ((((W.setCell ⟨g, i * 4, none⟩ (.int .i64 p.x.f0)).setCell ⟨g, i * 4 + 1, none⟩ (.slice p.A1 p.x.f1.length p.c1)).setCell ⟨g, i * 4 + 2, none⟩ (.int .i64 p.x.f2)).setCell ⟨g, i * 4 + 3, none⟩ (.slice p.A3 p.x.f3.length p.c3)) base ok (.slice (some ⟨g, 0, none⟩) n c) (zs.set i p) := by
 have hn : n = zs.length := (Kd.R_reads' hR).1
 have hi : i < zs.length := (List.getElem?_eq_some_iff.1 hp).1
 obtain ⟨cl, hcl, hM, hcc, _⟩ := Kd.R_elem hR p (i : Int) (by omega) (by omega)
 have hl : cl.length = 4 := hcl
 have h := (Kd.R_seg (okp := fun k => ok k ∧ k ≠ g) hR (i : Int) (by omega) (by omega) (seg := p.cells) (j := 0) hcl hcc (by show 0 + 4 ≤ 4; omega) (x' := p) (by show _ = p.cells; rw [List.take_zero, List.nil_append, List.drop_eq_nil_of_le (by show cl.length ≤ 0 + 4; omega), List.append_nil]) (fun k hk => hk)).1
 rw [Int.toNat_natCast] at h
 exact h
theorem below_cells {w W : World} {g : Nat} (hb : Below w.heap.size w W) (hg : w.heap.size ≤ g) (o : Nat) (vs : List Value) : Below w.heap.size w (W.setCells g o vs) := by
 obtain ⟨s1, s2, s3, s4⟩ := setCells_same g vs o W
 exact ⟨s1.trans hb.os, s2.trans hb.tape, s3.trans hb.output, by rw [s4]; exact hb.size, fun k hk => (setCells_far vs o k (by omega)).trans (hb.block k hk)⟩
structure CI (w : World) (zs : List (RV w)) (g n c kk t : Nat) (dk : List (RV w)) (W : World) : Prop where
 runs : runsT zs t = kk
 lt : kk < t
 len : dk.length = n
 high : ∀ j, t ≤ j + 1 → dk[j]? = zs[j]?
 row : (kRV w).R 39 W w.heap.size (fun _ => True) (.slice (some ⟨g, 0, none⟩) n c) dk
 below : Below w.heap.size w W
theorem CI.skip {w : World} {zs dk : List (RV w)} {g n c kk m : Nat} {W W' : World} (h : CI w zs g n c kk (m + 1) dk W) (hb : Below W.heap.size W W') {p q : RV w} (hp : zs[m + 1]? = some p) (hq : zs[m]? = some q) (hz : cmpRow p.x q.x = 0) : CI w zs g n c kk (m + 2) dk W' where
 runs := by rw [runsT_step hp hq, if_pos hz, h.runs]; rfl
 lt := Nat.lt_succ_of_lt h.lt
 len := h.len
 high := fun j hj => h.high j (by omega)
 row := Kd.R_below h.row hb
 below := below_then h.below hb
theorem CI.keep {w : World} {zs dk : List (RV w)} {g n c kk m : Nat} {W W' : World} (h : CI w zs g n c kk (m + 1) dk W) (hb : Below W.heap.size W W') {p q o : RV w} (hp : zs[m + 1]? = some p) (hq : zs[m]? = some q) (hz : ¬ cmpRow p.x q.x = 0) (ho : dk[kk]? = some o) (hg : w.heap.size ≤ g) :
  CI w zs g n c (kk + 1) (m + 2) (dk.set kk p) ((((W'.setCell ⟨g, kk * 4, none⟩ (.int .i64 p.x.f0)).setCell ⟨g, kk * 4 + 1, none⟩ (.slice p.A1 p.x.f1.length p.c1)).setCell ⟨g, kk * 4 + 2, none⟩ (.int .i64 p.x.f2)).setCell ⟨g, kk * 4 + 3, none⟩ (.slice p.A3 p.x.f3.length p.c3)) where
 runs := by rw [runsT_step hp hq, if_neg hz, h.runs]
 lt := Nat.succ_lt_succ h.lt
 len := by rw [List.length_set]; exact h.len
 high := fun j hj => by rw [List.getElem?_set_ne (by have := h.lt; omega)]; exact h.high j (by omega)
 row := rv_put (Kd.R_below h.row hb) kk ho p
 below := below_cells (below_then h.below hb) hg (kk * 4) p.cells
theorem zero39 (w : World) : (zeroValue 39).run Try.prog w = .ok (.agg #[.int .i64 0, .slice none 0 0, .int .i64 0, .slice none 0 0]) w := by kernel_rfl
theorem zeros39 (n : Nat) : ∀ v ∈ (Builtin.zeroCells (Value.agg #[.int .i64 0, .slice none 0 0, .int .i64 0, .slice none 0 0]).cells n).toList, v.oneCell' = true := fun v hv => by
 have hc : (Value.agg #[.int .i64 0, .slice none 0 0, .int .i64 0, .slice none 0 0]).cells = #[.int .i64 0, .slice none 0 0, .int .i64 0, .slice none 0 0] := rfl
 rw [hc, Array.mem_toList_iff] at hv
 unfold Builtin.zeroCells at hv
 obtain ⟨i, _, rfl⟩ := Array.mem_map.1 hv
 have h4 : i % #[Value.int .i64 0, .slice none 0 0, .int .i64 0, .slice none 0 0].size < 4 := Nat.mod_lt _ (by decide)
 generalize i % #[Value.int .i64 0, .slice none 0 0, .int .i64 0, .slice none 0 0].size = m at h4
 match m, h4 with
 | 0, _ => rfl
 | 1, _ => rfl
 | 2, _ => rfl
 | 3, _ => rfl
theorem rv_some {w W : World} {base : Nat} {ok : Nat → Prop} {g n c : Nat} {zs : List (RV w)} (hR : (kRV w).R 39 W base ok (.slice (some ⟨g, 0, none⟩) n c) zs) (t : Nat) (ht : t < n * 4) : (W.cell? ⟨g, t, none⟩).isSome = true := by
 have hn : n = zs.length := (Kd.R_reads' hR).1
 have h := (rv_at hR (t / 4) (List.getElem?_eq_getElem (show t / 4 < zs.length by omega))).1
 have hm : t % 4 < 4 := Nat.mod_lt _ (by decide)
 have e : t = t / 4 * 4 + t % 4 := by omega
 rw [e]
 generalize t % 4 = m at hm
 match m, hm with
 | 0, _ => rw [Nat.add_zero, h.1]; rfl
 | 1, _ => rw [h.2.1]; rfl
 | 2, _ => rw [h.2.2.1]; rfl
 | 3, _ => rw [h.2.2.2]; rfl
set_option maxHeartbeats 8000000 in
set_option maxRecDepth 100000 in
theorem compact_calls (w W : World) (A : Option Addr) (c : Nat) (zs : List (RV w)) (hb : Below w.heap.size w W) (hR : (kRV w).R 39 W w.heap.size (fun _ => True) (.slice A zs.length c) zs) (hlen : zs.length < 1099511627776) :
  Calls Try.prog 27 #[.slice A zs.length c, .func (.func 29) #[] #[]] W fun e w' => ∃ A' c', e = .returned (.slice A' (runsN (zs.map (·.x))) c') ∧ Below w.heap.size w w' := by
 have HALL : Z0 (runsT zs zs.length = runsN (zs.map (·.x))) := ⟨by unfold runsT; rw [List.take_length]⟩
 by_cases h2 : zs.length < 2
 ·have hrun : zs.length = runsN (zs.map (·.x)) := by
   match zs, h2 with
   | [], _ => rfl
   | [_], _ => rfl
  have HB := Z0.mk hb
  have HRUN := Z0.mk hrun
  have hd : decide (((zs.length : Nat) : Int) < 2) = true := decide_eq_true (by omega)
  clear hb hR hrun
  go_enter Try.func27, Try.ntmps27
  go_wp2
  go_ret
  exact ⟨A, c, by rw [← HRUN.out]; rfl, HB.out⟩
 ·obtain ⟨g, rfl⟩ : ∃ g, A = some ⟨g, 0, none⟩ := by
   obtain ⟨inner, hown⟩ := Kd.R_own hR
   obtain ⟨g, cap, e, _, _⟩ := hown.form (by omega)
   injection e with e _ _
   exact ⟨g, e⟩
  have hbase : w.heap.size ≤ g := by
   obtain ⟨inner, hown⟩ := Kd.R_own hR
   exact own_base hown g (by simp [Value.ownBlock])
  have hnc : zs.length ≤ c := (Kd.R_reads' hR).2.1
  have HSAME : Z0 (∀ (p q : RV w) (W' : World), Below w.heap.size w W' → Calls Try.prog 29 #[p.val, q.val] W' fun e w' => e = .returned (.bool (cmpRow p.x q.x == 0)) ∧ Below W'.heap.size W' w') := ⟨fun p q W' h => same_calls w W' p q h⟩
  have H0 : Z0 (runsT zs 1 = 1) := ⟨runsT_one (by omega)⟩
  obtain ⟨n, hn⟩ : ∃ n, n = zs.length := ⟨_, rfl⟩
  rw [← hn] at hR h2 hnc hlen HALL ⊢
  have HN := Z0.mk hn
  have HR := Z0.mk hR
  have HB := Z0.mk hb
  have HG := Z0.mk hbase
  clear hb hR hn hbase
  go_enter Try.func27, Try.ntmps27
  go_wp2
  go_loopg [5] n (fun gk v5 w' => ∃ k : Nat, v5 = .int .i64 (k : Int) ∧ 1 ≤ k ∧ k ≤ n ∧ n - k < gk ∧ Z0 (runsT zs k = k ∧ (kRV w).R 39 w' w.heap.size (fun _ => True) (.slice (some ⟨g, 0, none⟩) n c) zs ∧ Below w.heap.size w w'))
  case atStart => exact ⟨1, rfl, Nat.le_refl _, by omega, by omega, ⟨H0.out, HR.out, HB.out⟩⟩
  case round =>
   clear H0 HR HB
   obtain ⟨k, rfl, hk1, hkn, hgk, HI⟩ := hrel
   cases gk with
   | zero => exact absurd hgk (by omega)
   | succ k1 =>
    by_cases hlt : k < n
    ·obtain ⟨m, hm⟩ : ∃ m, k = m + 1 := ⟨k - 1, by omega⟩
     obtain ⟨p, hp⟩ : ∃ p, zs[k]? = some p := ⟨_, List.getElem?_eq_getElem (by rw [← HN.out]; exact hlt)⟩
     obtain ⟨q, hq⟩ : ∃ q, zs[m]? = some q := ⟨_, List.getElem?_eq_getElem (by rw [← HN.out]; omega)⟩
     have HP := Z0.mk hp
     have HQ := Z0.mk hq
     have HM := Z0.mk hm
     have hmn : m < n := by omega
     have hw : IntKind.i64.wrap ((k : Int) - 1) = (m : Int) := by rw [i64_w]; exact (IntWalk.wrap64_in _ ⟨by omega, by omega⟩).trans (by omega)
     have hb1 : decide ((k : Int) < (n : Int)) = true := decide_eq_true (by omega)
     have HC : Z0 (∀ W', Below _ _ W' → Cell4 g (k * 4) p W' ∧ Cell4 g (m * 4) q W') := ⟨fun W' hb => ⟨(rv_at HI.out.2.1 k hp).1.below hb, (rv_at HI.out.2.1 m hq).1.below hb⟩⟩
     clear hp hq hm
     go_wp2
     refine start_ (n := 11) (S := fun w' => Cell4 g (k * 4) p w' ∧ Cell4 g (m * 4) q w') (ds := []) #[false, false, false, false, false, false, false, false, false, false, false] (by kernel_rfl) rfl rfl (HC.out _ (below_drew (Below.refl _ _))) (fun hHeld => ?_)
     refine pure_ (i := 0) (N := some 18) (v := .func (.func 29) #[] #[]) (a' := ?aa101) #[true, false, false, false, false, false, false, false, false, false, false] rfl rfl (by kernel_rfl) (fun _ _ _ h => h) (Or.inl ⟨by rfl, ?hy101⟩) ?ha101 ?h101
     case hy101 => (intro w'; clear hHeld; go_simp)
     case ha101 => (show Act.put _ _ _ = _; simp only [Act.put, qA, qB, qC]; rfl)
     refine pure_ (i := 1) (N := some 19) (v := .slice (some ⟨g, 0, none⟩) n c) (a' := ?aa102) #[true, true, false, false, false, false, false, false, false, false, false] rfl rfl (by kernel_rfl) (fun _ _ _ h => h) (Or.inl ⟨by rfl, ?hy102⟩) ?ha102 ?h102
     case hy102 => (intro w'; clear hHeld; go_simp)
     case ha102 => (show Act.put _ _ _ = _; simp only [Act.put, qA, qB, qC]; rfl)
     refine pure_ (i := 2) (N := some 20) (v := .int .i64 k) (a' := ?aa103) #[true, true, true, false, false, false, false, false, false, false, false] rfl rfl (by kernel_rfl) (fun _ _ _ h => h) (Or.inl ⟨by rfl, ?hy103⟩) ?ha103 ?h103
     case hy103 => (intro w'; clear hHeld; go_simp)
     case ha103 => (show Act.put _ _ _ = _; simp only [Act.put, qA, qB, qC]; rfl)
     refine pure_ (i := 3) (N := some 21) (v := .pointer (some ⟨g, k * 4, none⟩)) (a' := ?aa104) #[true, true, true, true, false, false, false, false, false, false, false] rfl rfl (by kernel_rfl) (fun _ _ _ h => h) (Or.inl ⟨by rfl, ?hy104⟩) ?ha104 ?h104
     case hy104 => (intro w'; clear hHeld; go_simp)
     case ha104 => (show Act.put _ _ _ = _; simp only [Act.put, qA, qB, qC]; rfl)
     refine pure_ (i := 5) (N := some 23) (v := .slice (some ⟨g, 0, none⟩) n c) (a' := ?aa105) #[true, true, true, true, false, true, false, false, false, false, false] rfl rfl (by kernel_rfl) (fun _ _ _ h => h) (Or.inl ⟨by rfl, ?hy105⟩) ?ha105 ?h105
     case hy105 => (intro w'; clear hHeld; go_simp)
     case ha105 => (show Act.put _ _ _ = _; simp only [Act.put, qA, qB, qC]; rfl)
     refine pure_ (i := 6) (N := some 24) (v := .int .i64 k) (a' := ?aa106) #[true, true, true, true, false, true, true, false, false, false, false] rfl rfl (by kernel_rfl) (fun _ _ _ h => h) (Or.inl ⟨by rfl, ?hy106⟩) ?ha106 ?h106
     case hy106 => (intro w'; clear hHeld; go_simp)
     case ha106 => (show Act.put _ _ _ = _; simp only [Act.put, qA, qB, qC]; rfl)
     refine pure_ (i := 7) (N := some 25) (v := .int .i64 m) (a' := ?aa107) #[true, true, true, true, false, true, true, true, false, false, false] rfl rfl (by kernel_rfl) (fun _ _ _ h => h) (Or.inl ⟨by rfl, ?hy107⟩) ?ha107 ?h107
     case hy107 => (intro w'; clear hHeld; go_simp)
     case ha107 => (show Act.put _ _ _ = _; simp only [Act.put, qA, qB, qC]; rfl)
     refine pure_ (i := 8) (N := some 26) (v := .pointer (some ⟨g, m * 4, none⟩)) (a' := ?aa108) #[true, true, true, true, false, true, true, true, true, false, false] rfl rfl (by kernel_rfl) (fun _ _ _ h => h) (Or.inl ⟨by rfl, ?hy108⟩) ?ha108 ?h108
     case hy108 => (intro w'; clear hHeld; go_simp)
     case ha108 => (show Act.put _ _ _ = _; simp only [Act.put, qA, qB, qC]; rfl)
     refine take_ (i := 4) (N := some 22) (v := .agg #[.int .i64 p.x.f0, .slice p.A1 p.x.f1.length p.c1, .int .i64 p.x.f2, .slice p.A3 p.x.f3.length p.c3]) (a' := ?aa109) #[true, true, true, true, true, true, true, true, true, false, false] rfl rfl (by kernel_rfl) (fun _ _ _ h => h) (Or.inl ⟨by rfl, ?hy109⟩) hHeld ?ha109 ?h109
     case hy109 => (rintro w' ⟨⟨s0, s1, s2, s3⟩, ⟨s4, s5, s6, s7⟩⟩; clear hHeld; go_simp)
     case ha109 => (show Act.put _ _ _ = _; simp only [Act.put, qA, qB, qC]; rfl)
     refine take_ (i := 9) (N := some 27) (v := .agg #[.int .i64 q.x.f0, .slice q.A1 q.x.f1.length q.c1, .int .i64 q.x.f2, .slice q.A3 q.x.f3.length q.c3]) (a' := ?aa110) #[true, true, true, true, true, true, true, true, true, true, false] rfl rfl (by kernel_rfl) (fun _ _ _ h => h) (Or.inl ⟨by rfl, ?hy110⟩) hHeld ?ha110 ?h110
     case hy110 => (rintro w' ⟨⟨s0, s1, s2, s3⟩, ⟨s4, s5, s6, s7⟩⟩; clear hHeld; go_simp)
     case ha110 => (show Act.put _ _ _ = _; simp only [Act.put, qA, qB, qC]; rfl)
     refine one_ (i := 10) (N := some 28) #[true, true, true, true, true, true, true, true, true, true, true] rfl rfl (by kernel_rfl) (by decide) (fun K hK => ?_)
     refine goes_v (.tmp 18) Try.func29 (by kernel_rfl) rfl #[.agg #[.int .i64 p.x.f0, .slice p.A1 p.x.f1.length p.c1, .int .i64 p.x.f2, .slice p.A3 p.x.f3.length p.c3], .agg #[.int .i64 q.x.f0, .slice q.A1 q.x.f1.length q.c1, .int .i64 q.x.f2, .slice q.A3 q.x.f3.length q.c3]] (by rfl) rfl rfl (by rfl) (by (try simp only [List.map_toArray, List.map_cons, List.map_nil]); first | done | rfl) ?_
     refine (HSAME.out p q _ (below_drew HI.out.2.2)).mono ?_
     rintro e w3 ⟨rfl, hb3⟩
     refine ⟨_, rfl, ?_⟩
     have hb4 := below_then (below_drew (Below.refl _ _)) hb3
     refine hK.out _ _ (HC.out _ hb4) (fun hHeld => ?_)
     clear hK K
     refine norm_ (a' := ?aa50) ?ha50 ?h50
     case ha50 => (show Act.put _ _ _ = _; simp only [Act.put, qA, qB, qC]; rfl)
     refine done_ (by kernel_rfl) ?_
     have HR4 := Z0.mk (Kd.R_below HI.out.2.1 hb4)
     have HB4 := Z0.mk (below_then HI.out.2.2 hb4)
     have HT := Z0.mk HI.out.1
     clear hHeld hb3 hb4 HC HI
     by_cases hz : cmpRow p.x q.x = 0
     ·have HZ := Z0.mk hz
      have hzb : (cmpRow p.x q.x == 0) = true := by simp [hz]
      rw [hzb]
      clear hz hzb hmn hw hb1
      have HS : Z0 (CI w zs g n c k (k + 1) zs w3) := ⟨⟨by
       have h := HM.out
       have hp := HP.out
       have ht := HT.out
       subst h
       rw [runsT_step hp HQ.out, if_pos HZ.out, ht], Nat.lt_succ_self _, HN.out.symm, fun _ _ => rfl, HR4.out, HB4.out⟩⟩
      clear HR4 HB4 HT HZ HP HQ HM
      go_wp2
      generalize hr : n - k = r
      generalize c - k = cr
      have hnr : k + r = n := by omega
      clear hr
      go_loopg [5, 7] n (fun gk v5 v7 w' => ∃ (kk k2 : Nat) (dk : List (RV w)), v5 = .int .i64 (kk : Int) ∧ v7 = .int .i64 (k2 : Int) ∧ 1 ≤ k2 ∧ k2 ≤ r ∧ n - (k + k2) < gk ∧ Z0 (CI w zs g n c kk (k + k2) dk w'))
      case atStart => exact ⟨k, 1, zs, rfl, rfl, Nat.le_refl _, by omega, by omega, HS⟩
      case round =>
       clear HS
       obtain ⟨kk, k2, dk, rfl, rfl, h1, hle, hgk2, HI⟩ := hrel
       cases gk with
       | zero => exact absurd hgk2 (by omega)
       | succ k3 =>
        by_cases hlt2 : k2 < r
        ·obtain ⟨m2, hm2⟩ : ∃ m2, k2 = m2 + 1 := ⟨k2 - 1, by omega⟩
         obtain ⟨p, hp⟩ : ∃ p, zs[k + k2]? = some p := ⟨_, List.getElem?_eq_getElem (by rw [← HN.out]; omega)⟩
         obtain ⟨q, hq⟩ : ∃ q, zs[k + m2]? = some q := ⟨_, List.getElem?_eq_getElem (by rw [← HN.out]; omega)⟩
         have hkk : kk < n := by have := HI.out.lt; omega
         obtain ⟨o, ho⟩ : ∃ o, dk[kk]? = some o := ⟨_, List.getElem?_eq_getElem (by rw [HI.out.len]; exact hkk)⟩
         have HP := Z0.mk hp
         have HQ := Z0.mk hq
         have HO := Z0.mk ho
         have HM2 := Z0.mk hm2
         have hmr : m2 < r := by omega
         have hw : IntKind.i64.wrap ((k2 : Int) - 1) = (m2 : Int) := by rw [i64_w]; exact (IntWalk.wrap64_in _ ⟨by omega, by omega⟩).trans (by omega)
         have hb1 : decide ((k2 : Int) < (r : Int)) = true := decide_eq_true (by omega)
         have HC : Z0 (∀ W', Below _ _ W' → Cell4 g (k * 4 + k2 * 4) p W' ∧ Cell4 g (k * 4 + m2 * 4) q W') := ⟨fun W' hb => ⟨by
          have h := (rv_at HI.out.row (k + k2) ((HI.out.high _ (by omega)).trans hp)).1.below hb
          rwa [Nat.add_mul] at h, by
          have h := (rv_at HI.out.row (k + m2) ((HI.out.high _ (by omega)).trans hq)).1.below hb
          rwa [Nat.add_mul] at h⟩⟩
         clear hp hq ho hm2
         go_wp2
         refine start_ (n := 12) (S := fun w' => Cell4 g (k * 4 + k2 * 4) p w' ∧ Cell4 g (k * 4 + m2 * 4) q w') (ds := []) #[false, false, false, false, false, false, false, false, false, false, false, false] (by kernel_rfl) rfl rfl (HC.out _ (below_drew (Below.refl _ _))) (fun hHeld => ?_)
         refine pure_ (i := 0) (N := some 38) (v := .func (.func 29) #[] #[]) (a' := ?aa201) #[true, false, false, false, false, false, false, false, false, false, false, false] rfl rfl (by kernel_rfl) (fun _ _ _ h => h) (Or.inl ⟨by rfl, ?hy201⟩) ?ha201 ?h201
         case hy201 => (intro w'; clear hHeld; go_simp)
         case ha201 => (show Act.put _ _ _ = _; simp only [Act.put, qA, qB, qC]; rfl)
         refine pure_ (i := 1) (N := some 39) (v := .slice (some ⟨g, k * 4, none⟩) r cr) (a' := ?aa202) #[true, true, false, false, false, false, false, false, false, false, false, false] rfl rfl (by kernel_rfl) (fun _ _ _ h => h) (Or.inl ⟨by rfl, ?hy202⟩) ?ha202 ?h202
         case hy202 => (intro w'; clear hHeld; go_simp)
         case ha202 => (show Act.put _ _ _ = _; simp only [Act.put, qA, qB, qC]; rfl)
         refine pure_ (i := 2) (N := some 40) (v := .int .i64 k2) (a' := ?aa203) #[true, true, true, false, false, false, false, false, false, false, false, false] rfl rfl (by kernel_rfl) (fun _ _ _ h => h) (Or.inl ⟨by rfl, ?hy203⟩) ?ha203 ?h203
         case hy203 => (intro w'; clear hHeld; go_simp)
         case ha203 => (show Act.put _ _ _ = _; simp only [Act.put, qA, qB, qC]; rfl)
         refine pure_ (i := 3) (N := some 41) (v := .pointer (some ⟨g, k * 4 + k2 * 4, none⟩)) (a' := ?aa204) #[true, true, true, true, false, false, false, false, false, false, false, false] rfl rfl (by kernel_rfl) (fun _ _ _ h => h) (Or.inl ⟨by rfl, ?hy204⟩) ?ha204 ?h204
         case hy204 => (intro w'; clear hHeld; go_simp)
         case ha204 => (show Act.put _ _ _ = _; simp only [Act.put, qA, qB, qC]; rfl)
         refine pure_ (i := 5) (N := some 43) (v := .slice (some ⟨g, k * 4, none⟩) r cr) (a' := ?aa205) #[true, true, true, true, false, true, false, false, false, false, false, false] rfl rfl (by kernel_rfl) (fun _ _ _ h => h) (Or.inl ⟨by rfl, ?hy205⟩) ?ha205 ?h205
         case hy205 => (intro w'; clear hHeld; go_simp)
         case ha205 => (show Act.put _ _ _ = _; simp only [Act.put, qA, qB, qC]; rfl)
         refine pure_ (i := 6) (N := some 44) (v := .int .i64 k2) (a' := ?aa206) #[true, true, true, true, false, true, true, false, false, false, false, false] rfl rfl (by kernel_rfl) (fun _ _ _ h => h) (Or.inl ⟨by rfl, ?hy206⟩) ?ha206 ?h206
         case hy206 => (intro w'; clear hHeld; go_simp)
         case ha206 => (show Act.put _ _ _ = _; simp only [Act.put, qA, qB, qC]; rfl)
         refine pure_ (i := 7) (N := some 45) (v := .int .i64 m2) (a' := ?aa207) #[true, true, true, true, false, true, true, true, false, false, false, false] rfl rfl (by kernel_rfl) (fun _ _ _ h => h) (Or.inl ⟨by rfl, ?hy207⟩) ?ha207 ?h207
         case hy207 => (intro w'; clear hHeld; go_simp)
         case ha207 => (show Act.put _ _ _ = _; simp only [Act.put, qA, qB, qC]; rfl)
         refine pure_ (i := 8) (N := some 46) (v := .pointer (some ⟨g, k * 4 + m2 * 4, none⟩)) (a' := ?aa208) #[true, true, true, true, false, true, true, true, true, false, false, false] rfl rfl (by kernel_rfl) (fun _ _ _ h => h) (Or.inl ⟨by rfl, ?hy208⟩) ?ha208 ?h208
         case hy208 => (intro w'; clear hHeld; go_simp)
         case ha208 => (show Act.put _ _ _ = _; simp only [Act.put, qA, qB, qC]; rfl)
         refine take_ (i := 4) (N := some 42) (v := .agg #[.int .i64 p.x.f0, .slice p.A1 p.x.f1.length p.c1, .int .i64 p.x.f2, .slice p.A3 p.x.f3.length p.c3]) (a' := ?aa209) #[true, true, true, true, true, true, true, true, true, false, false, false] rfl rfl (by kernel_rfl) (fun _ _ _ h => h) (Or.inl ⟨by rfl, ?hy209⟩) hHeld ?ha209 ?h209
         case hy209 => (rintro w' ⟨⟨s0, s1, s2, s3⟩, ⟨s4, s5, s6, s7⟩⟩; clear hHeld; go_simp)
         case ha209 => (show Act.put _ _ _ = _; simp only [Act.put, qA, qB, qC]; rfl)
         refine take_ (i := 9) (N := some 47) (v := .agg #[.int .i64 q.x.f0, .slice q.A1 q.x.f1.length q.c1, .int .i64 q.x.f2, .slice q.A3 q.x.f3.length q.c3]) (a' := ?aa210) #[true, true, true, true, true, true, true, true, true, true, false, false] rfl rfl (by kernel_rfl) (fun _ _ _ h => h) (Or.inl ⟨by rfl, ?hy210⟩) hHeld ?ha210 ?h210
         case hy210 => (rintro w' ⟨⟨s0, s1, s2, s3⟩, ⟨s4, s5, s6, s7⟩⟩; clear hHeld; go_simp)
         case ha210 => (show Act.put _ _ _ = _; simp only [Act.put, qA, qB, qC]; rfl)
         refine one_ (i := 10) (N := some 48) #[true, true, true, true, true, true, true, true, true, true, true, false] rfl rfl (by kernel_rfl) (by decide) (fun K hK => ?_)
         refine goes_v (.tmp 38) Try.func29 (by kernel_rfl) rfl #[.agg #[.int .i64 p.x.f0, .slice p.A1 p.x.f1.length p.c1, .int .i64 p.x.f2, .slice p.A3 p.x.f3.length p.c3], .agg #[.int .i64 q.x.f0, .slice q.A1 q.x.f1.length q.c1, .int .i64 q.x.f2, .slice q.A3 q.x.f3.length q.c3]] (by rfl) rfl rfl (by rfl) (by (try simp only [List.map_toArray, List.map_cons, List.map_nil]); first | done | rfl) ?_
         refine (HSAME.out p q _ (below_drew HI.out.below)).mono ?_
         rintro e w5 ⟨rfl, hb5⟩
         refine ⟨_, rfl, ?_⟩
         have hb6 := below_then (below_drew (Below.refl _ _)) hb5
         refine hK.out _ _ (HC.out _ hb6) (fun hHeld => ?_)
         clear hK K
         refine norm_ (a' := ?aa60) ?ha60 ?h60
         case ha60 => (show Act.put _ _ _ = _; simp only [Act.put, qA, qB, qC]; rfl)
         by_cases hz : cmpRow p.x q.x = 0
         ·have HZ := Z0.mk hz
          have hzb : (cmpRow p.x q.x == 0) = true := by simp [hz]
          rw [hzb]
          refine pure_ (i := 11) (N := some 49) (v := .bool false) (a' := ?aa61) #[true, true, true, true, true, true, true, true, true, true, true, true] rfl rfl (by kernel_rfl) (fun _ _ _ h => h) (Or.inl ⟨by rfl, ?hy61⟩) ?ha61 ?h61
          case hy61 => (intro w'; clear hHeld hz; go_simp)
          case ha61 => (show Act.put _ _ _ = _; simp only [Act.put, qA, qB, qC]; rfl)
          refine done_ (by kernel_rfl) ?_
          have HI2 : Z0 (CI w zs g n c kk (k + (k2 + 1)) dk w5) := ⟨by
           have h := HM2.out
           have h2 := HI.out
           have h3 := HP.out
           subst h
           exact h2.skip (m := k + m2) hb6 h3 HQ.out HZ.out⟩
          clear hHeld hz hzb hb5 hb6 HC HI hw hb1
          go_wp2
          go_roundg k3
          case measure => exact Nat.lt_succ_self _
          case rel => exact ⟨kk, k2 + 1, dk, rfl, by go_num, by omega, by omega, by omega, HI2⟩
         ·have HZ := Z0.mk hz
          have hzb : (cmpRow p.x q.x == 0) = false := by simp [hz]
          rw [hzb]
          refine pure_ (i := 11) (N := some 49) (v := .bool true) (a' := ?aa62) #[true, true, true, true, true, true, true, true, true, true, true, true] rfl rfl (by kernel_rfl) (fun _ _ _ h => h) (Or.inl ⟨by rfl, ?hy62⟩) ?ha62 ?h62
          case hy62 => (intro w'; clear hHeld hz; go_simp)
          case ha62 => (show Act.put _ _ _ = _; simp only [Act.put, qA, qB, qC]; rfl)
          refine done_ (by kernel_rfl) ?_
          obtain ⟨⟨s0, s1, s2, s3⟩, hfz⟩ := rv_at (Kd.R_below HI.out.row hb6) kk HO.out
          obtain ⟨⟨t0, t1, t2, t3⟩, _⟩ := hHeld
          have HI2 : Z0 (CI w zs g n c (kk + 1) (k + (k2 + 1)) (dk.set kk p) ((((w5.setCell ⟨g, kk * 4, none⟩ (.int .i64 p.x.f0)).setCell ⟨g, kk * 4 + 1, none⟩ (.slice p.A1 p.x.f1.length p.c1)).setCell ⟨g, kk * 4 + 2, none⟩ (.int .i64 p.x.f2)).setCell ⟨g, kk * 4 + 3, none⟩ (.slice p.A3 p.x.f3.length p.c3))) := ⟨by
           have h := HM2.out
           have h2 := HI.out
           have h3 := HP.out
           subst h
           exact h2.keep (m := k + m2) hb6 h3 HQ.out HZ.out HO.out HG.out⟩
          clear hz hzb hb5 hb6 HC HI hw hb1
          go_wp2
          go_roundg k3
          case measure => exact Nat.lt_succ_self _
          case rel => exact ⟨kk + 1, k2 + 1, dk.set kk p, by go_num, by go_num, by omega, by omega, by omega, HI2⟩
        ·obtain rfl : k2 = r := by omega
         have hkk : kk < n := by have := HI.out.lt; omega
         have hb1 : decide ((k2 : Int) < (k2 : Int)) = false := decide_eq_false (by omega)
         have hcl := fun ty => run_clear_rows (P := Try.prog) _ 28 39 ty _ Try.underlying28 zero39 zeros39 g (kk * 4) (n - kk) (c - kk) (by omega) (fun j hj => rv_some HI.out.row (kk * 4 + j) (by have h4 : j < (n - kk) * 4 := hj; omega)) (fun j => by
          obtain ⟨o, ho⟩ : ∃ o, dk[kk]? = some o := ⟨_, List.getElem?_eq_getElem (by rw [HI.out.len]; exact hkk)⟩
          exact (rv_at HI.out.row kk ho).2 _)
         have HI2 : Z0 (runsT zs n = kk ∧ ∀ o vs, Below w.heap.size w (World.setCells _ g o vs)) := ⟨by have h := HI.out.runs; rwa [hnr] at h, fun o vs => below_cells HI.out.below HG.out o vs⟩
         clear HI
         go_wp2
         go_ret
         exact ⟨_, c, by rw [← HALL.out, HI2.out.1]; rfl, HI2.out.2 _ _⟩
     ·have hzb : (cmpRow p.x q.x == 0) = false := by simp [hz]
      rw [hzb]
      have HZ := Z0.mk hz
      clear hz hzb hmn hw hb1
      go_wp2
      go_roundg k1
      case measure => exact Nat.lt_succ_self _
      case rel => exact ⟨k + 1, by go_num, by omega, by omega, by omega, ⟨by
       have h := HM.out
       have hp := HP.out
       have ht := HT.out
       subst h
       rw [runsT_step hp HQ.out, if_neg HZ.out, ht], HR4.out, HB4.out⟩⟩
    ·obtain rfl : k = n := by omega
     have hb1 : decide ((k : Int) < (k : Int)) = false := decide_eq_false (by omega)
     go_wp2
     go_ret
     exact ⟨_, c, by rw [← HALL.out, HI.out.1]; rfl, HI.out.2.2⟩
end Go.Proofs.Ytdeeffahfkndkaa.P
