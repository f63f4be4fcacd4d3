/- A part of the proof: lemmas and contracts of functions (printed or written by the session's program, and by hand), in dependency order. -/
import Derived.Test.YtdeeffahfkndkaaProg
import Derived.Below
import Derived.Deep.Draws
import Derived.Deep.AppendLies
import Derived.Maps.AppendAt
import Derived.OwnWalk
import Derived.Laws.BytesArg
import Derived.Laws.MakeOwn
import Derived.Laws.OwnMore
import Derived.Deep.OwnRows
import Derived.Tactics
import Derived.Lib.ConvBytes
import Derived.Laws.Slices
import Derived.WalkKit
import Derived.KernelRfl
import Derived.RowKit3
import Derived.Deep.LoopGhost
import Derived.Deep.QuietTactic
import Derived.BigQuiet
import Derived.WideLaws
import Derived.Deep.DeepCutAuto
import Derived.Deep.CutBlock
import Derived.Deep.RegionHeld3
import Derived.Laws.Rows
import Derived.Lib.AppendStr
import Derived.ArgAppend
import Derived.Laws.IdiomCopy
import Derived.OrdersHeld
import Derived.Laws.BitsLemmas
import Derived.RowKit
import Derived.Test.YtdeeffahfkndkaaQOrder1
import Derived.Test.YtdeeffahfkndkaaQOrder2
namespace Go.Proofs.Ytdeeffahfkndkaa.P
open Go.RowKit Go.Proofs.YtdeeffahfkndkaaW.PrintWords Go.Proofs.YtdeeffahfkndkaaW.PrintLast Go.Proofs.YtdeeffahfkndkaaW.PrintMore
attribute [local go_sem] max2_int min2_int max_two min_two max_three min_three max_four min_four
set_option linter.unusedVariables false
set_option linter.unusedSimpArgs false
def errW : Option Int → Value
 | none => .nilIface
 | some c => .iface 0 (.int .i64 c)
theorem errW_none : errW none = .nilIface := rfl
theorem errW_some (c : Int) : errW (some c) = .iface 0 (.int .i64 c) := rfl
theorem info9 : (Try.prog.info? 9).map (fun i => (i.zero, i.size, i.bytes)) = some (some (.string ⟨#[]⟩), 1, 16) := by kernel_rfl
theorem info28 : (Try.prog.info? 28).map (fun i => (i.zero, i.size, i.bytes)) = some (some (.slice none 0 0), 1, 24) := by kernel_rfl
theorem info39 : (Try.prog.info? 39).map (fun i => (i.zero, i.size, i.bytes)) = some (some (.agg #[(.int .i64 0), (.slice none 0 0), (.int .i64 0), (.slice none 0 0)]), 4, 64) := by kernel_rfl
theorem info71 : (Try.prog.info? 71).map (fun i => (i.zero, i.size, i.bytes)) = some (some (.agg #[(.int .i64 0), (.int .i64 0), (.int .i64 0)]), 3, 24) := by kernel_rfl
structure S71 where
 f0 : Int
 f1 : Int
 f2 : Int
def z71 : S71 := ⟨(0 : Int), (0 : Int), (0 : Int)⟩
def k71 : Kd S71 := Kd.iso (Kd.pair (Kd.int .i64) (Kd.pair (Kd.int .i64) (Kd.int .i64))) (fun x : S71 => (x.f0, x.f1, x.f2))
theorem k71_open {w : World} {x : S71} {cs : List Value} (h : k71.K w x cs) : cs = [.int .i64 x.f0, .int .i64 x.f1, .int .i64 x.f2] := by
 obtain ⟨_, _, rfl, rfl, ⟨_, _, rfl, rfl, rfl⟩⟩ := h
 exact rfl
theorem k71_mkM (w : World) (base : Nat) (ok : Nat → Prop) (x : S71)  : k71.M w base ok x [.int .i64 x.f0, .int .i64 x.f1, .int .i64 x.f2] := ⟨[.int .i64 x.f0], [.int .i64 x.f1, .int .i64 x.f2], rfl, rfl, ⟨[.int .i64 x.f1], [.int .i64 x.f2], rfl, rfl, rfl⟩⟩
def rd_T71 (xs : List S71) (i : Int) : S71 := xs.getD i.toNat z71
theorem at_T71 {w : World} {A : Option Addr} {n : Nat} {xs : List S71} (h : Kd.C k71 w A n xs) (i : Int) (h0 : 0 ≤ i) (h1 : i < n) : ∃ ad , A = some ad ∧ w.cell? (ad.add (i.toNat * 3)) = some (.int .i64 (rd_T71 xs i).f0) ∧ w.cell? ⟨(ad.add (i.toNat * 3)).block, (ad.add (i.toNat * 3)).off + 1, none⟩ = some (.int .i64 (rd_T71 xs i).f1) ∧ w.cell? ⟨(ad.add (i.toNat * 3)).block, (ad.add (i.toNat * 3)).off + 2, none⟩ = some (.int .i64 (rd_T71 xs i).f2) := by
 obtain ⟨ad, c, e, _, hK, hc0⟩ := Kd.C_get h z71 i h0 h1
 have hc : ∀ j u, c[j]? = some u → w.cell? (ad.add (i.toNat * 3 + j)) = some u := hc0
 obtain rfl := k71_open hK
 exact ⟨ad, e, hc 0 _ rfl, by rw [← add_field _ _ 1 (by omega)]; exact hc 1 _ rfl, by rw [← add_field _ _ 2 (by omega)]; exact hc 2 _ rfl⟩
structure S39 where
 f0 : Int
 f1 : (List ByteArray)
 f2 : Int
 f3 : (List S71)
def z39 : S39 := ⟨(0 : Int), ([] : List ByteArray), (0 : Int), ([] : List S71)⟩
def k39 : Kd S39 := Kd.iso (Kd.pair (Kd.int .i64) (Kd.pair (Kd.slice 9 Kd.string) (Kd.pair (Kd.int .i64) (Kd.slice 71 k71)))) (fun x : S39 => (x.f0, x.f1, x.f2, x.f3))
theorem k39_open {w : World} {x : S39} {cs : List Value} (h : k39.K w x cs) : ∃ A1 c1 A3 c3, cs = [.int .i64 x.f0, .slice A1 x.f1.length c1, .int .i64 x.f2, .slice A3 x.f3.length c3] ∧ x.f1.length ≤ c1 ∧ Kd.string.C w A1 x.f1.length x.f1 ∧ x.f3.length ≤ c3 ∧ k71.C w A3 x.f3.length x.f3 := by
 obtain ⟨_, _, rfl, rfl, ⟨_, _, rfl, ⟨A1, c1, rfl, l1, g1⟩, ⟨_, _, rfl, rfl, ⟨A3, c3, rfl, l3, g3⟩⟩⟩⟩ := h
 exact ⟨A1, c1, A3, c3, rfl, l1, g1, l3, g3⟩
theorem k39_openM {w : World} {base : Nat} {ok : Nat → Prop} {x : S39} {cs : List Value} (h : k39.M w base ok x cs) : ∃ v1 v3, cs = [.int .i64 x.f0, v1, .int .i64 x.f2, v3] ∧ Kd.string.R 9 w base ok v1 x.f1 ∧ k71.R 71 w base ok v3 x.f3 := by
 obtain ⟨_, _, rfl, rfl, ⟨_, _, rfl, ⟨v1, rfl, g1⟩, ⟨_, _, rfl, rfl, ⟨v3, rfl, g3⟩⟩⟩⟩ := h
 exact ⟨v1, v3, rfl, g1, g3⟩
theorem k39_mk (w : World) (x : S39) {A1 : Option Addr} {c1 : Nat} (l1 : x.f1.length ≤ c1) (g1 : Kd.string.C w A1 x.f1.length x.f1) {A3 : Option Addr} {c3 : Nat} (l3 : x.f3.length ≤ c3) (g3 : k71.C w A3 x.f3.length x.f3) : k39.K w x [.int .i64 x.f0, .slice A1 x.f1.length c1, .int .i64 x.f2, .slice A3 x.f3.length c3] := ⟨[.int .i64 x.f0], [.slice A1 x.f1.length c1, .int .i64 x.f2, .slice A3 x.f3.length c3], rfl, rfl, ⟨[.slice A1 x.f1.length c1], [.int .i64 x.f2, .slice A3 x.f3.length c3], rfl, ⟨A1, c1, rfl, l1, g1⟩, ⟨[.int .i64 x.f2], [.slice A3 x.f3.length c3], rfl, rfl, ⟨A3, c3, rfl, l3, g3⟩⟩⟩⟩
theorem k39_mkM (w : World) (base : Nat) (ok : Nat → Prop) (x : S39) {v1 : Value} (g1 : Kd.string.R 9 w base ok v1 x.f1) {v3 : Value} (g3 : k71.R 71 w base ok v3 x.f3) : k39.M w base ok x [.int .i64 x.f0, v1, .int .i64 x.f2, v3] := ⟨[.int .i64 x.f0], [v1, .int .i64 x.f2, v3], rfl, rfl, ⟨[v1], [.int .i64 x.f2, v3], rfl, ⟨v1, rfl, g1⟩, ⟨[.int .i64 x.f2], [v3], rfl, rfl, ⟨v3, rfl, g3⟩⟩⟩⟩
def rd_T39 (xs : List S39) (i : Int) : S39 := xs.getD i.toNat z39
theorem at_T39 {w : World} {A : Option Addr} {n : Nat} {xs : List S39} (h : Kd.C k39 w A n xs) (i : Int) (h0 : 0 ≤ i) (h1 : i < n) : ∃ ad A1 c1 A3 c3, A = some ad ∧ w.cell? (ad.add (i.toNat * 4)) = some (.int .i64 (rd_T39 xs i).f0) ∧ w.cell? ⟨(ad.add (i.toNat * 4)).block, (ad.add (i.toNat * 4)).off + 1, none⟩ = some (.slice A1 (rd_T39 xs i).f1.length c1) ∧ w.cell? ⟨(ad.add (i.toNat * 4)).block, (ad.add (i.toNat * 4)).off + 2, none⟩ = some (.int .i64 (rd_T39 xs i).f2) ∧ w.cell? ⟨(ad.add (i.toNat * 4)).block, (ad.add (i.toNat * 4)).off + 3, none⟩ = some (.slice A3 (rd_T39 xs i).f3.length c3) ∧ (rd_T39 xs i).f1.length ≤ c1 ∧ Kd.string.C w A1 (rd_T39 xs i).f1.length (rd_T39 xs i).f1 ∧ (rd_T39 xs i).f3.length ≤ c3 ∧ k71.C w A3 (rd_T39 xs i).f3.length (rd_T39 xs i).f3 := by
 obtain ⟨ad, c, e, _, hK, hc0⟩ := Kd.C_get h z39 i h0 h1
 have hc : ∀ j u, c[j]? = some u → w.cell? (ad.add (i.toNat * 4 + j)) = some u := hc0
 obtain ⟨A1, c1, A3, c3, rfl, l1, g1, l3, g3⟩ := k39_open hK
 exact ⟨ad, A1, c1, A3, c3, e, hc 0 _ rfl, by rw [← add_field _ _ 1 (by omega)]; exact hc 1 _ rfl, by rw [← add_field _ _ 2 (by omega)]; exact hc 2 _ rfl, by rw [← add_field _ _ 3 (by omega)]; exact hc 3 _ rfl, l1, g1, l3, g3⟩
def rd_L6 (xs : List (List S39)) (i : Int) : (List S39) := xs.getD i.toNat ([] : List S39)
theorem at_L6 {w : World} {A : Option Addr} {n : Nat} {xs : List (List S39)} (h : Kd.C (Kd.slice 39 k39) w A n xs) (i : Int) (h0 : 0 ≤ i) (h1 : i < n) : ∃ ad A0 c0, A = some ad ∧ w.cell? (ad.add i.toNat) = some (.slice A0 (rd_L6 xs i).length c0) ∧ (rd_L6 xs i).length ≤ c0 ∧ k39.C w A0 (rd_L6 xs i).length (rd_L6 xs i) := by
 obtain ⟨ad, c, e, _, hK, hc0⟩ := Kd.C_get h ([] : List S39) i h0 h1
 have hc : ∀ j u, c[j]? = some u → w.cell? (ad.add (i.toNat * 1 + j)) = some u := hc0
 obtain ⟨A0, c0, rfl, l0, g0⟩ := hK
 exact ⟨ad, A0, c0, e, by have hq := hc 0 _ rfl; rwa [Nat.mul_one, Nat.add_zero] at hq, l0, g0⟩
structure S64 where
 f0 : (List S39)
 f1 : Int
def z64 : S64 := ⟨([] : List S39), (0 : Int)⟩
def k64 : Kd S64 := Kd.iso (Kd.pair (Kd.slice 39 k39) (Kd.int .i64)) (fun x : S64 => (x.f0, x.f1))
theorem k64_open {w : World} {x : S64} {cs : List Value} (h : k64.K w x cs) : ∃ A0 c0, cs = [.slice A0 x.f0.length c0, .int .i64 x.f1] ∧ x.f0.length ≤ c0 ∧ k39.C w A0 x.f0.length x.f0 := by
 obtain ⟨_, _, rfl, ⟨A0, c0, rfl, l0, g0⟩, rfl⟩ := h
 exact ⟨A0, c0, rfl, l0, g0⟩
def rd_T64 (xs : List S64) (i : Int) : S64 := xs.getD i.toNat z64
theorem at_T64 {w : World} {A : Option Addr} {n : Nat} {xs : List S64} (h : Kd.C k64 w A n xs) (i : Int) (h0 : 0 ≤ i) (h1 : i < n) : ∃ ad A0 c0, A = some ad ∧ w.cell? (ad.add (i.toNat * 2)) = some (.slice A0 (rd_T64 xs i).f0.length c0) ∧ w.cell? ⟨(ad.add (i.toNat * 2)).block, (ad.add (i.toNat * 2)).off + 1, none⟩ = some (.int .i64 (rd_T64 xs i).f1) ∧ (rd_T64 xs i).f0.length ≤ c0 ∧ k39.C w A0 (rd_T64 xs i).f0.length (rd_T64 xs i).f0 := by
 obtain ⟨ad, c, e, _, hK, hc0⟩ := Kd.C_get h z64 i h0 h1
 have hc : ∀ j u, c[j]? = some u → w.cell? (ad.add (i.toNat * 2 + j)) = some u := hc0
 obtain ⟨A0, c0, rfl, l0, g0⟩ := k64_open hK
 exact ⟨ad, A0, c0, e, hc 0 _ rfl, by rw [← add_field _ _ 1 (by omega)]; exact hc 1 _ rfl, l0, g0⟩
end Go.Proofs.Ytdeeffahfkndkaa.P
namespace Go.Proofs.Ytdeeffahfkndkaa.P
open Go.RowKit Go.Proofs.YtdeeffahfkndkaaW.PrintWords Go.Proofs.YtdeeffahfkndkaaW.PrintLast Go.Proofs.YtdeeffahfkndkaaW.PrintMore
set_option linter.unusedVariables false
set_option linter.unusedSimpArgs false
theorem R_empty {α : Type} (d : Kd α) (e : Nat) (W : World) (base : Nat) (ok : Nat → Prop) (hb : base ≤ W.heap.size) (hok : ok W.heap.size) :
  d.R e (W.alloc (.cells #[] e)) base ok (.slice (some ⟨W.heap.size, 0, none⟩) 0 0) [] := by
 refine ⟨fun k hk => ?_, [], ⟨by simp, .inr ⟨W.heap.size, 0, #[], rfl, hb, heap_alloc_new W (.cells #[] e), Nat.le_refl _, by simp [maxLen], by simp, by simp⟩⟩, Reps.none _ _⟩
 have : W.heap.size = k := by simpa [Value.ownBlock] using hk
 exact this ▸ hok
theorem C_none {α : Type} {d : Kd α} {w : World} {n : Nat} {xs : List α} (h : d.C w none n xs) : n = 0 ∧ xs = [] := by
 obtain ⟨h1, _, h3⟩ := h
 rcases Nat.eq_zero_or_pos n with h0 | h0
 ·exact ⟨h0, List.length_eq_zero_iff.1 (h1.trans h0)⟩
 ·obtain ⟨ad, e, _⟩ := h3 h0
  cases e
end Go.Proofs.Ytdeeffahfkndkaa.P
namespace Go.Proofs.Ytdeeffahfkndkaa.P
open Go.RowKit Go.Proofs.YtdeeffahfkndkaaW.PrintWords Go.Proofs.YtdeeffahfkndkaaW.PrintLast Go.Proofs.YtdeeffahfkndkaaW.PrintMore
attribute [local go_sem] max2_int min2_int max_two min_two max_three min_three max_four min_four
set_option linter.unusedVariables false
set_option linter.unusedSimpArgs false
def cmp_Or_int.l0 : Nat → Int → List Int → Int → Int → Option (Int)
 | 0, _, _, _, _ => none
 | k + 1, x3, x6, x7, x8 => if x8 < x7 then (if 0 ≤ x8 then (if x8 < (x6.length : Int) then (if (rd x6 x8) = x3 then (cmp_Or_int.l0 k x3 x6 x7 (wrap64 (x8 + 1))) else (some (rd x6 x8))) else (none)) else (none)) else (some x3)
def cmp_Or_int.f (k : Nat) (l0 : List Int) : Option (Int) := cmp_Or_int.l0 k 0 l0 (l0.length : Int) 0
set_option maxHeartbeats 8000000 in
set_option maxRecDepth 100000 in
theorem cmp_Or_int.calls (k : Nat) (A0 : Option Addr) (c0 : Nat) (l0 : List Int) (r : Int) (w : World) (hr0 : Kd.C (Kd.int .i64) w A0 l0.length l0) (hc0 : l0.length ≤ c0) (h : cmp_Or_int.f k l0 = some r) :
  Calls Try.prog 39 #[.slice A0 l0.length c0] w fun e w' => e = .returned (.int .i64 r) ∧ Drawn0 w w' := by
 have HR0 := Z0.mk hr0
 have HC0 := Z0.mk hc0
 clear hr0 hc0
 have H : (cmp_Or_int.l0 k 0 l0 (l0.length : Int) 0) = some r := h
 clear h
 have H' := Z0.mk H
 clear H
 go_enter Try.func39, Try.ntmps39
 go_wp2
 go_loopg [8] k (fun kq v8 w' => ∃ (x8_1 : Int), v8 = .int .i64 x8_1 ∧ Z0 (cmp_Or_int.l0 kq 0 l0 (l0.length : Int) x8_1 = some r) ∧ Z0 (kq ≤ k) ∧ Drawn0 w w')
 case atStart => exact ⟨(0), (by first | rfl | (simp; done) | (simp [*]; done)), H', ⟨Nat.le_refl _⟩, by repeat (first | exact Drawn0.refl _ | apply Drawn0.step)⟩
 case round =>
  clear H'
  obtain ⟨x8_1, rfl, HA, HK1, ⟨m1, rfl⟩⟩ := hrel
  cases gk with
  | zero => exact absurd HA.out (by simp [cmp_Or_int.l0])
  | succ k1 =>
   have H := HA.out
   clear HA
   simp only [cmp_Or_int.l0] at H
   by_cases c2 : x8_1 < (l0.length : Int)
   ·rw [if_pos c2] at H
    have c2b0 : decide (x8_1 < (l0.length : Int)) = true := decide_eq_true c2
    clear c2
    by_cases c3 : 0 ≤ x8_1
    ·rw [if_pos c3] at H
     have c3b0 : decide (0 ≤ x8_1) = true := decide_eq_true c3
     clear c3
     by_cases c4 : x8_1 < (l0.length : Int)
     ·rw [if_pos c4] at H
      have c4b0 : decide (x8_1 < (l0.length : Int)) = true := decide_eq_true c4
      clear c4
      by_cases c5 : (rd l0 x8_1) = 0
      ·rw [if_pos c5] at H
       have c5b0 : ((rd l0 x8_1) == 0) = true := beq_iff_eq.mpr c5
       have c5b1 : ((rd l0 x8_1) != 0) = false := bne_eq_false_iff_eq.mpr c5
       clear c5
       have H' := Z0.mk H
       clear H
       have p109 : 0 ≤ (x8_1 : Int) := of_decide_eq_true (by first | (with_reducible assumption) | assumption)
       have q109 : x8_1 < (l0.length : Int) := of_decide_eq_true (by first | (with_reducible assumption) | assumption)
       obtain ⟨ad109, e109, hx109_0⟩ := Kd.at_int HR0.out x8_1 p109 q109
       cases e109
       replace p109 := eq_true p109
       replace q109 := eq_true q109
       go_wp2
       go_roundg k1
       case measure => have := HK1.out; omega
       case rel => exact ⟨(wrap64 (x8_1 + 1)), (by first | rfl | (simp; done) | (simp [*]; done)), H', ⟨by have := HK1.out; omega⟩, by repeat (first | exact Drawn0.refl _ | apply Drawn0.step)⟩
      ·rw [if_neg c5] at H
       have c5b0 : ((rd l0 x8_1) == 0) = false := beq_eq_false_iff_ne.mpr c5
       have c5b1 : ((rd l0 x8_1) != 0) = true := bne_iff_ne.mpr c5
       obtain rfl := Option.some.inj H
       have p109 : 0 ≤ (x8_1 : Int) := of_decide_eq_true (by first | (with_reducible assumption) | assumption)
       have q109 : x8_1 < (l0.length : Int) := of_decide_eq_true (by first | (with_reducible assumption) | assumption)
       obtain ⟨ad109, e109, hx109_0⟩ := Kd.at_int HR0.out x8_1 p109 q109
       cases e109
       replace p109 := eq_true p109
       replace q109 := eq_true q109
       go_wp2
       go_ret
       exact ⟨by first | rfl | (simp; done) | (simp [*]; done), by repeat (first | exact Drawn0.refl _ | apply Drawn0.step)⟩
     ·rw [if_neg c4] at H
      exact absurd H (by simp)
    ·rw [if_neg c3] at H
     exact absurd H (by simp)
   ·rw [if_neg c2] at H
    have c2b0 : decide (x8_1 < (l0.length : Int)) = false := decide_eq_false c2
    clear c2
    obtain rfl := Option.some.inj H
    go_wp2
    go_ret
    exact ⟨by first | rfl | (simp; done) | (simp [*]; done), by repeat (first | exact Drawn0.refl _ | apply Drawn0.step)⟩
end Go.Proofs.Ytdeeffahfkndkaa.P
namespace Go.Proofs.Ytdeeffahfkndkaa.P
open Go.RowKit Go.Proofs.YtdeeffahfkndkaaW.PrintWords Go.Proofs.YtdeeffahfkndkaaW.PrintLast Go.Proofs.YtdeeffahfkndkaaW.PrintMore
attribute [local go_sem] max2_int min2_int max_two min_two max_three min_three max_four min_four
set_option linter.unusedVariables false
set_option linter.unusedSimpArgs false
def cmp_isNaN_int.f (a0 : Int) : Option (Bool) := some (a0 != a0)
set_option maxHeartbeats 8000000 in
set_option maxRecDepth 100000 in
theorem cmp_isNaN_int.calls (a0 : Int) (r : Bool) (w : World) (h : cmp_isNaN_int.f a0 = some r) :
  Calls Try.prog 58 #[.int .i64 a0] w fun e w' => e = .returned (.bool r) ∧ Drawn0 w w' := by
 have H : (some (a0 != a0)) = some r := h
 clear h
 obtain rfl := Option.some.inj H
 go_enter Try.func58, Try.ntmps58
 go_wp2
 go_ret
 exact ⟨by first | rfl | (simp; done) | (simp [*]; done), by repeat (first | exact Drawn0.refl _ | apply Drawn0.step)⟩
end Go.Proofs.Ytdeeffahfkndkaa.P
namespace Go.Proofs.Ytdeeffahfkndkaa.P
open Go.RowKit Go.Proofs.YtdeeffahfkndkaaW.PrintWords Go.Proofs.YtdeeffahfkndkaaW.PrintLast Go.Proofs.YtdeeffahfkndkaaW.PrintMore
attribute [local go_sem] max2_int min2_int max_two min_two max_three min_three max_four min_four
set_option linter.unusedVariables false
set_option linter.unusedSimpArgs false
def cmp_Compare_int.f (a0 : Int) (a1 : Int) : Option (Int) := (cmp_isNaN_int.f a0).bind fun t110 => ((cmp_isNaN_int.f a1).bind fun t111 => (if t110 = true then (if t111 = true then (some 0) else (some (-1))) else (if t111 = true then (some 1) else (if a0 < a1 then (some (-1)) else (if a0 > a1 then (some 1) else (some 0))))))
set_option maxHeartbeats 8000000 in
set_option maxRecDepth 100000 in
theorem cmp_Compare_int.calls (a0 : Int) (a1 : Int) (r : Int) (w : World) (h : cmp_Compare_int.f a0 a1 = some r) :
  Calls Try.prog 40 #[.int .i64 a0, .int .i64 a1] w fun e w' => e = .returned (.int .i64 r) ∧ Drawn0 w w' := by
 have H : ((cmp_isNaN_int.f a0).bind fun t110 => ((cmp_isNaN_int.f a1).bind fun t111 => (if t110 = true then (if t111 = true then (some 0) else (some (-1))) else (if t111 = true then (some 1) else (if a0 < a1 then (some (-1)) else (if a0 > a1 then (some 1) else (some 0))))))) = some r := h
 clear h
 replace H := Option.bind_eq_some_iff.mp H
 obtain ⟨t110, A30, H⟩ := H
 replace H : ((cmp_isNaN_int.f a1).bind fun t111 => (if t110 = true then (if t111 = true then (some 0) else (some (-1))) else (if t111 = true then (some 1) else (if a0 < a1 then (some (-1)) else (if a0 > a1 then (some 1) else (some 0)))))) = some r := H
 have A3 := Z0.mk A30
 clear A30
 replace H := Option.bind_eq_some_iff.mp H
 obtain ⟨t111, A40, H⟩ := H
 replace H : (if t110 = true then (if t111 = true then (some 0) else (some (-1))) else (if t111 = true then (some 1) else (if a0 < a1 then (some (-1)) else (if a0 > a1 then (some 1) else (some 0))))) = some r := H
 have A4 := Z0.mk A40
 clear A40
 by_cases c5 : t110 = true
 ·subst c5
  have H1 : (if t111 = true then (some 0) else (some (-1))) = some r := by rw [if_pos rfl] at H; exact H
  clear H
  have H := H1
  clear H1
  by_cases c6 : t111 = true
  ·subst c6
   have H1 : (some 0) = some r := by rw [if_pos rfl] at H; exact H
   clear H
   have H := H1
   clear H1
   obtain rfl := Option.some.inj H
   go_enter Try.func40, Try.ntmps40
   go_wp2_with (first | ((with_reducible refine gate_callee (f := 58) rfl ?_); refine goesL_ (some 8) rfl rfl Try.func58 (by kernel_rfl) rfl #[.int .i64 a0] rfl (by (try simp only [List.map_toArray, List.map_cons, List.map_nil]); first | done | rfl | (simp only [List.length_drop, List.length_take]; rfl)) ?_; (with_reducible refine (cmp_isNaN_int.calls a0 true _ A3.out).mono ?_); rintro e w' ⟨rfl, ⟨nd, rfl⟩⟩; refine ⟨_, rfl, ?_⟩) | ((with_reducible refine gate_callee (f := 58) rfl ?_); refine goesL_ (some 10) rfl rfl Try.func58 (by kernel_rfl) rfl #[.int .i64 a1] rfl (by (try simp only [List.map_toArray, List.map_cons, List.map_nil]); first | done | rfl | (simp only [List.length_drop, List.length_take]; rfl)) ?_; (with_reducible refine (cmp_isNaN_int.calls a1 true _ A4.out).mono ?_); rintro e w' ⟨rfl, ⟨nd, rfl⟩⟩; refine ⟨_, rfl, ?_⟩))
   go_ret
   exact ⟨by first | rfl | (simp; done) | (simp [*]; done), by repeat (first | exact Drawn0.refl _ | apply Drawn0.step)⟩
  ·replace c6 := Bool.eq_false_iff.mpr c6
   subst c6
   have H1 : (some (-1)) = some r := by rw [if_neg (show ¬ (false = true) by decide)] at H; exact H
   clear H
   have H := H1
   clear H1
   obtain rfl := Option.some.inj H
   go_enter Try.func40, Try.ntmps40
   go_wp2_with (first | ((with_reducible refine gate_callee (f := 58) rfl ?_); refine goesL_ (some 8) rfl rfl Try.func58 (by kernel_rfl) rfl #[.int .i64 a0] rfl (by (try simp only [List.map_toArray, List.map_cons, List.map_nil]); first | done | rfl | (simp only [List.length_drop, List.length_take]; rfl)) ?_; (with_reducible refine (cmp_isNaN_int.calls a0 true _ A3.out).mono ?_); rintro e w' ⟨rfl, ⟨nd, rfl⟩⟩; refine ⟨_, rfl, ?_⟩) | ((with_reducible refine gate_callee (f := 58) rfl ?_); refine goesL_ (some 10) rfl rfl Try.func58 (by kernel_rfl) rfl #[.int .i64 a1] rfl (by (try simp only [List.map_toArray, List.map_cons, List.map_nil]); first | done | rfl | (simp only [List.length_drop, List.length_take]; rfl)) ?_; (with_reducible refine (cmp_isNaN_int.calls a1 false _ A4.out).mono ?_); rintro e w' ⟨rfl, ⟨nd, rfl⟩⟩; refine ⟨_, rfl, ?_⟩))
   go_ret
   exact ⟨by first | rfl | (simp; done) | (simp [*]; done), by repeat (first | exact Drawn0.refl _ | apply Drawn0.step)⟩
 ·replace c5 := Bool.eq_false_iff.mpr c5
  subst c5
  have H1 : (if t111 = true then (some 1) else (if a0 < a1 then (some (-1)) else (if a0 > a1 then (some 1) else (some 0)))) = some r := by rw [if_neg (show ¬ (false = true) by decide)] at H; exact H
  clear H
  have H := H1
  clear H1
  by_cases c7 : t111 = true
  ·subst c7
   have H1 : (some 1) = some r := by rw [if_pos rfl] at H; exact H
   clear H
   have H := H1
   clear H1
   obtain rfl := Option.some.inj H
   go_enter Try.func40, Try.ntmps40
   go_wp2_with (first | ((with_reducible refine gate_callee (f := 58) rfl ?_); refine goesL_ (some 8) rfl rfl Try.func58 (by kernel_rfl) rfl #[.int .i64 a0] rfl (by (try simp only [List.map_toArray, List.map_cons, List.map_nil]); first | done | rfl | (simp only [List.length_drop, List.length_take]; rfl)) ?_; (with_reducible refine (cmp_isNaN_int.calls a0 false _ A3.out).mono ?_); rintro e w' ⟨rfl, ⟨nd, rfl⟩⟩; refine ⟨_, rfl, ?_⟩) | ((with_reducible refine gate_callee (f := 58) rfl ?_); refine goesL_ (some 10) rfl rfl Try.func58 (by kernel_rfl) rfl #[.int .i64 a1] rfl (by (try simp only [List.map_toArray, List.map_cons, List.map_nil]); first | done | rfl | (simp only [List.length_drop, List.length_take]; rfl)) ?_; (with_reducible refine (cmp_isNaN_int.calls a1 true _ A4.out).mono ?_); rintro e w' ⟨rfl, ⟨nd, rfl⟩⟩; refine ⟨_, rfl, ?_⟩))
   go_ret
   exact ⟨by first | rfl | (simp; done) | (simp [*]; done), by repeat (first | exact Drawn0.refl _ | apply Drawn0.step)⟩
  ·replace c7 := Bool.eq_false_iff.mpr c7
   subst c7
   have H1 : (if a0 < a1 then (some (-1)) else (if a0 > a1 then (some 1) else (some 0))) = some r := by rw [if_neg (show ¬ (false = true) by decide)] at H; exact H
   clear H
   have H := H1
   clear H1
   by_cases c8 : a0 < a1
   ·rw [if_pos c8] at H
    have c8b0 : decide (a0 < a1) = true := decide_eq_true c8
    clear c8
    obtain rfl := Option.some.inj H
    go_enter Try.func40, Try.ntmps40
    go_wp2_with (first | ((with_reducible refine gate_callee (f := 58) rfl ?_); refine goesL_ (some 8) rfl rfl Try.func58 (by kernel_rfl) rfl #[.int .i64 a0] rfl (by (try simp only [List.map_toArray, List.map_cons, List.map_nil]); first | done | rfl | (simp only [List.length_drop, List.length_take]; rfl)) ?_; (with_reducible refine (cmp_isNaN_int.calls a0 false _ A3.out).mono ?_); rintro e w' ⟨rfl, ⟨nd, rfl⟩⟩; refine ⟨_, rfl, ?_⟩) | ((with_reducible refine gate_callee (f := 58) rfl ?_); refine goesL_ (some 10) rfl rfl Try.func58 (by kernel_rfl) rfl #[.int .i64 a1] rfl (by (try simp only [List.map_toArray, List.map_cons, List.map_nil]); first | done | rfl | (simp only [List.length_drop, List.length_take]; rfl)) ?_; (with_reducible refine (cmp_isNaN_int.calls a1 false _ A4.out).mono ?_); rintro e w' ⟨rfl, ⟨nd, rfl⟩⟩; refine ⟨_, rfl, ?_⟩))
    go_ret
    exact ⟨by first | rfl | (simp; done) | (simp [*]; done), by repeat (first | exact Drawn0.refl _ | apply Drawn0.step)⟩
   ·rw [if_neg c8] at H
    have c8b0 : decide (a0 < a1) = false := decide_eq_false c8
    clear c8
    by_cases c9 : a0 > a1
    ·rw [if_pos c9] at H
     have c9b0 : decide (a1 < a0) = true := decide_eq_true c9
     clear c9
     obtain rfl := Option.some.inj H
     go_enter Try.func40, Try.ntmps40
     go_wp2_with (first | ((with_reducible refine gate_callee (f := 58) rfl ?_); refine goesL_ (some 8) rfl rfl Try.func58 (by kernel_rfl) rfl #[.int .i64 a0] rfl (by (try simp only [List.map_toArray, List.map_cons, List.map_nil]); first | done | rfl | (simp only [List.length_drop, List.length_take]; rfl)) ?_; (with_reducible refine (cmp_isNaN_int.calls a0 false _ A3.out).mono ?_); rintro e w' ⟨rfl, ⟨nd, rfl⟩⟩; refine ⟨_, rfl, ?_⟩) | ((with_reducible refine gate_callee (f := 58) rfl ?_); refine goesL_ (some 10) rfl rfl Try.func58 (by kernel_rfl) rfl #[.int .i64 a1] rfl (by (try simp only [List.map_toArray, List.map_cons, List.map_nil]); first | done | rfl | (simp only [List.length_drop, List.length_take]; rfl)) ?_; (with_reducible refine (cmp_isNaN_int.calls a1 false _ A4.out).mono ?_); rintro e w' ⟨rfl, ⟨nd, rfl⟩⟩; refine ⟨_, rfl, ?_⟩))
     go_ret
     exact ⟨by first | rfl | (simp; done) | (simp [*]; done), by repeat (first | exact Drawn0.refl _ | apply Drawn0.step)⟩
    ·rw [if_neg c9] at H
     have c9b0 : decide (a1 < a0) = false := decide_eq_false c9
     clear c9
     obtain rfl := Option.some.inj H
     go_enter Try.func40, Try.ntmps40
     go_wp2_with (first | ((with_reducible refine gate_callee (f := 58) rfl ?_); refine goesL_ (some 8) rfl rfl Try.func58 (by kernel_rfl) rfl #[.int .i64 a0] rfl (by (try simp only [List.map_toArray, List.map_cons, List.map_nil]); first | done | rfl | (simp only [List.length_drop, List.length_take]; rfl)) ?_; (with_reducible refine (cmp_isNaN_int.calls a0 false _ A3.out).mono ?_); rintro e w' ⟨rfl, ⟨nd, rfl⟩⟩; refine ⟨_, rfl, ?_⟩) | ((with_reducible refine gate_callee (f := 58) rfl ?_); refine goesL_ (some 10) rfl rfl Try.func58 (by kernel_rfl) rfl #[.int .i64 a1] rfl (by (try simp only [List.map_toArray, List.map_cons, List.map_nil]); first | done | rfl | (simp only [List.length_drop, List.length_take]; rfl)) ?_; (with_reducible refine (cmp_isNaN_int.calls a1 false _ A4.out).mono ?_); rintro e w' ⟨rfl, ⟨nd, rfl⟩⟩; refine ⟨_, rfl, ?_⟩))
     go_ret
     exact ⟨by first | rfl | (simp; done) | (simp [*]; done), by repeat (first | exact Drawn0.refl _ | apply Drawn0.step)⟩
end Go.Proofs.Ytdeeffahfkndkaa.P
namespace Go.Proofs.Ytdeeffahfkndkaa.P
open Go.RowKit Go.Proofs.YtdeeffahfkndkaaW.PrintWords Go.Proofs.YtdeeffahfkndkaaW.PrintLast Go.Proofs.YtdeeffahfkndkaaW.PrintMore
attribute [local go_sem] max2_int min2_int max_two min_two max_three min_three max_four min_four
set_option linter.unusedVariables false
set_option linter.unusedSimpArgs false
def agg_fits.l0 : Nat → List Int → Int → Int → Option (Bool)
 | 0, _, _, _ => none
 | k + 1, x5, x6, x7 => if x7 < x6 then (if 0 ≤ x7 then (if x7 < (x5.length : Int) then (if (rd x5 x7) < (-4611686018427387904) then (some false) else (if (rd x5 x7) > 4611686018427387904 then (some false) else (agg_fits.l0 k x5 x6 (wrap64 (x7 + 1))))) else (none)) else (none)) else (some true)
def agg_fits.f (k : Nat) (l0 : List Int) : Option (Bool) := agg_fits.l0 k l0 (l0.length : Int) 0
set_option maxHeartbeats 8000000 in
set_option maxRecDepth 100000 in
theorem agg_fits.calls (k : Nat) (A0 : Option Addr) (c0 : Nat) (l0 : List Int) (r : Bool) (w : World) (hr0 : Kd.C (Kd.int .i64) w A0 l0.length l0) (hc0 : l0.length ≤ c0) (h : agg_fits.f k l0 = some r) :
  Calls Try.prog 77 #[.slice A0 l0.length c0] w fun e w' => e = .returned (.bool r) ∧ Drawn0 w w' := by
 have HR0 := Z0.mk hr0
 have HC0 := Z0.mk hc0
 clear hr0 hc0
 have H : (agg_fits.l0 k l0 (l0.length : Int) 0) = some r := h
 clear h
 have H' := Z0.mk H
 clear H
 go_enter Try.func77, Try.ntmps77
 go_wp2
 go_loopg [7] k (fun kq v7 w' => ∃ (x7_1 : Int), v7 = .int .i64 x7_1 ∧ Z0 (agg_fits.l0 kq l0 (l0.length : Int) x7_1 = some r) ∧ Z0 (kq ≤ k) ∧ Drawn0 w w')
 case atStart => exact ⟨(0), (by first | rfl | (simp; done) | (simp [*]; done)), H', ⟨Nat.le_refl _⟩, by repeat (first | exact Drawn0.refl _ | apply Drawn0.step)⟩
 case round =>
  clear H'
  obtain ⟨x7_1, rfl, HA, HK1, ⟨m1, rfl⟩⟩ := hrel
  cases gk with
  | zero => exact absurd HA.out (by simp [agg_fits.l0])
  | succ k1 =>
   have H := HA.out
   clear HA
   simp only [agg_fits.l0] at H
   by_cases c2 : x7_1 < (l0.length : Int)
   ·rw [if_pos c2] at H
    have c2b0 : decide (x7_1 < (l0.length : Int)) = true := decide_eq_true c2
    clear c2
    by_cases c3 : 0 ≤ x7_1
    ·rw [if_pos c3] at H
     have c3b0 : decide (0 ≤ x7_1) = true := decide_eq_true c3
     clear c3
     by_cases c4 : x7_1 < (l0.length : Int)
     ·rw [if_pos c4] at H
      have c4b0 : decide (x7_1 < (l0.length : Int)) = true := decide_eq_true c4
      clear c4
      by_cases c5 : (rd l0 x7_1) < (-4611686018427387904)
      ·rw [if_pos c5] at H
       have c5b0 : decide ((rd l0 x7_1) < (-4611686018427387904)) = true := decide_eq_true c5
       clear c5
       obtain rfl := Option.some.inj H
       have p123 : 0 ≤ (x7_1 : Int) := of_decide_eq_true (by first | (with_reducible assumption) | assumption)
       have q123 : x7_1 < (l0.length : Int) := of_decide_eq_true (by first | (with_reducible assumption) | assumption)
       obtain ⟨ad123, e123, hx123_0⟩ := Kd.at_int HR0.out x7_1 p123 q123
       cases e123
       replace p123 := eq_true p123
       replace q123 := eq_true q123
       go_wp2
       go_ret
       exact ⟨by first | rfl | (simp; done) | (simp [*]; done), by repeat (first | exact Drawn0.refl _ | apply Drawn0.step)⟩
      ·rw [if_neg c5] at H
       have c5b0 : decide ((rd l0 x7_1) < (-4611686018427387904)) = false := decide_eq_false c5
       clear c5
       by_cases c6 : (rd l0 x7_1) > 4611686018427387904
       ·rw [if_pos c6] at H
        have c6b0 : decide (4611686018427387904 < (rd l0 x7_1)) = true := decide_eq_true c6
        clear c6
        obtain rfl := Option.some.inj H
        have p123 : 0 ≤ (x7_1 : Int) := of_decide_eq_true (by first | (with_reducible assumption) | assumption)
        have q123 : x7_1 < (l0.length : Int) := of_decide_eq_true (by first | (with_reducible assumption) | assumption)
        obtain ⟨ad123, e123, hx123_0⟩ := Kd.at_int HR0.out x7_1 p123 q123
        cases e123
        replace p123 := eq_true p123
        replace q123 := eq_true q123
        go_wp2
        go_ret
        exact ⟨by first | rfl | (simp; done) | (simp [*]; done), by repeat (first | exact Drawn0.refl _ | apply Drawn0.step)⟩
       ·rw [if_neg c6] at H
        have c6b0 : decide (4611686018427387904 < (rd l0 x7_1)) = false := decide_eq_false c6
        clear c6
        have H' := Z0.mk H
        clear H
        have p123 : 0 ≤ (x7_1 : Int) := of_decide_eq_true (by first | (with_reducible assumption) | assumption)
        have q123 : x7_1 < (l0.length : Int) := of_decide_eq_true (by first | (with_reducible assumption) | assumption)
        obtain ⟨ad123, e123, hx123_0⟩ := Kd.at_int HR0.out x7_1 p123 q123
        cases e123
        replace p123 := eq_true p123
        replace q123 := eq_true q123
        go_wp2
        go_roundg k1
        case measure => have := HK1.out; omega
        case rel => exact ⟨(wrap64 (x7_1 + 1)), (by first | rfl | (simp; done) | (simp [*]; done)), H', ⟨by have := HK1.out; omega⟩, by repeat (first | exact Drawn0.refl _ | apply Drawn0.step)⟩
     ·rw [if_neg c4] at H
      exact absurd H (by simp)
    ·rw [if_neg c3] at H
     exact absurd H (by simp)
   ·rw [if_neg c2] at H
    have c2b0 : decide (x7_1 < (l0.length : Int)) = false := decide_eq_false c2
    clear c2
    obtain rfl := Option.some.inj H
    go_wp2
    go_ret
    exact ⟨by first | rfl | (simp; done) | (simp [*]; done), by repeat (first | exact Drawn0.refl _ | apply Drawn0.step)⟩
end Go.Proofs.Ytdeeffahfkndkaa.P
namespace Go.Proofs.Ytdeeffahfkndkaa.P
open Go.RowKit Go.Proofs.YtdeeffahfkndkaaW.PrintWords Go.Proofs.YtdeeffahfkndkaaW.PrintLast Go.Proofs.YtdeeffahfkndkaaW.PrintMore
attribute [local go_sem] max2_int min2_int max_two min_two max_three min_three max_four min_four
set_option linter.unusedVariables false
set_option linter.unusedSimpArgs false
def agg_Right.f (k : Nat) (a0_0 : Int) (a0_1 : Int) (a0_2 : Int) : Option (Bool) := (agg_fits.f k (([a0_0, a0_1, a0_2] : List Int))).bind fun t128 => (if t128 = true then (some (decide (a0_1 ≤ a0_2))) else (some false))
set_option maxHeartbeats 8000000 in
set_option maxRecDepth 100000 in
theorem agg_Right.calls (k : Nat) (a0_0 : Int) (a0_1 : Int) (a0_2 : Int) (r : Bool) (w : World) (h : agg_Right.f k a0_0 a0_1 a0_2 = some r) :
  Calls Try.prog 60 #[.agg #[.int .i64 a0_0, .int .i64 a0_1, .int .i64 a0_2]] w fun e w' => e = .returned (.bool r) ∧ Below w.heap.size w w' := by
 have hu71 := Try.underlying71
 have HB := Z0.mk (Below.refl w.heap.size w)
 have H : ((agg_fits.f k (([a0_0, a0_1, a0_2] : List Int))).bind fun t128 => (if t128 = true then (some (decide (a0_1 ≤ a0_2))) else (some false))) = some r := h
 clear h
 obtain ⟨y125, hy125⟩ : ∃ y_ : List Int, y_ = (([a0_0, a0_1, a0_2] : List Int)) := ⟨_, rfl⟩
 replace H : ((agg_fits.f k y125).bind fun t128 => (if t128 = true then (some (decide (a0_1 ≤ a0_2))) else (some false))) = some r := by first | (rw [hy125]; with_reducible exact H) | (have H2_ := (Option.bind_some _ _).symm.trans H; rw [hy125]; with_reducible exact H2_) | (have H2_ := (Option.bind_some _ _).symm.trans H; with_reducible exact H2_) | with_reducible exact H | (rw [hy125]; exact H) | exact H
 have Ny125 := Z0.mk hy125
 clear hy125
 replace H := Option.bind_eq_some_iff.mp H
 obtain ⟨t128, A20, H⟩ := H
 replace H : (if t128 = true then (some (decide (a0_1 ≤ a0_2))) else (some false)) = some r := H
 have A2 := Z0.mk A20
 clear A20
 by_cases c3 : t128 = true
 ·subst c3
  have H1 : (some (decide (a0_1 ≤ a0_2))) = some r := by rw [if_pos rfl] at H; exact H
  clear H
  have H := H1
  clear H1
  obtain rfl := Option.some.inj H
  go_enter Try.func60, Try.ntmps60
  go_wp2_with (first | ((with_reducible refine gate_dst (N := 1) rfl ?_); refine box_event ?hg (N := 1) ?hd (cs := #[.int .i64 a0_0, .int .i64 a0_1, .int .i64 a0_2]) (t := 71) ?hr ?_; (case hd => rfl); (case hg => rfl); (case hr => first | (go_simp; done) | (go_simp; rfl)); intro gb124 hg w4 hbox hb; have n0_ := Z0.mk (below_step (by repeat (first | (with_reducible first | exact HB.out | apply beA | apply bpN | apply bd1) | exact HB.out)) hb); have n1_ := Z0.mk (hbox); have n2_ := Z0.mk ((by rw [hg]; exact (below_size (by repeat (first | (with_reducible first | exact HB.out | apply beA | apply bpN | apply bd1) | exact HB.out))) : w.heap.size ≤ gb124)); have n3_ := Z0.mk ((by rw [hg]; exact (below_size (by repeat (first | (with_reducible first | exact HB.out | apply beA | apply bpN | apply bd1) | exact HB.out))) : w.heap.size ≤ gb124)); clear HB; have HB := n0_; have BK124 := n1_; have GW124 := n2_; have GE124 := n3_; clear n0_ n1_ n2_ n3_; clear hb hbox hg; have hcz5_0 : w4.cell? ⟨gb124, 0, none⟩ = some (.int .i64 a0_0) := (bCe BK124.out 0).trans rfl; have hcz5_1 : w4.cell? ⟨gb124, 1, none⟩ = some (.int .i64 a0_1) := (bCe BK124.out 1).trans rfl; have hcz5_2 : w4.cell? ⟨gb124, 2, none⟩ = some (.int .i64 a0_2) := (bCe BK124.out 2).trans rfl; have hfz5_0 := bFz BK124.out 0; have hfz5_1 := bFz BK124.out 1; have hfz5_2 := bFz BK124.out 2) | ((with_reducible refine gate_dst (N := 9) rfl ?_); refine Kd.R_lit (Kd.int .i64) _ 3 ?hg (N := 9) ?hd (xs := ([a0_0, a0_1, a0_2] : List Int)) (inner := [.int .i64 a0_0, .int .i64 a0_1, .int .i64 a0_2]) (ok := fun _ => True) (okp := fun _ => True) ?hr ?hp (fun _ hk => hk) trivial (Below.refl _ _) (Nat.le_refl _) (by simp) ?_; (case hd => rfl); (case hg => rfl); (case hr => first | (go_simp; done) | (go_simp; rfl)); (case hp => exact (Reps.one (show Kd.M (Kd.int .i64) _ _ _ a0_0 [.int .i64 a0_0] from rfl) (Reps.one (show Kd.M (Kd.int .i64) _ _ _ a0_1 [.int .i64 a0_1] from rfl) (Reps.one (show Kd.M (Kd.int .i64) _ _ _ a0_2 [.int .i64 a0_2] from rfl) (Reps.none _ _))))); intro v126 w6 ho7 hb hg_ hnew_; clear hg_ hnew_; (first | rw [← Ny125.out] at ho7 | (simp only [Int.reduceToNat] at ho7; rw [← Ny125.out] at ho7)); have n0_ := Z0.mk (Kd.R_lower ho7 (below_size (by repeat (first | (with_reducible first | exact HB.out | apply beA | apply bpN | apply bd1 | refine beS ?_ GE124.out) | exact HB.out)))); have n1_ := Z0.mk (blk_below (g := gb124) (o := .cells #[.int .i64 a0_0, .int .i64 a0_1, .int .i64 a0_2] 71 (0, 0)) (by (with_reducible repeat (first | refine bDN ?_ _ | refine bDr ?_ | refine bAl ?_ _)); exact BK124.out) hb); have n2_ := Z0.mk (below_step (by repeat (first | (with_reducible first | exact HB.out | apply beA | apply bpN | apply bd1 | refine beS ?_ GE124.out) | exact HB.out)) hb); clear BK124; clear HB; have HO127 := n0_; have BK124 := n1_; have HB := n2_; clear n0_ n1_ n2_; clear hb ho7; obtain ⟨Ao8, co8, eo8⟩ := Kd.R_slice HO127.out; subst eo8) | ((with_reducible refine gate_callee (f := 77) rfl ?_); refine goesL_ (some 10) rfl rfl Try.func77 (by kernel_rfl) rfl #[.slice Ao8 y125.length co8] rfl (by (try simp only [List.map_toArray, List.map_cons, List.map_nil]); first | done | rfl | (simp only [List.length_drop, List.length_take]; rfl)) ?_; (with_reducible refine (agg_fits.calls k _ _ y125 true _ ?side1 ?side2 A2.out).mono ?_); (case side1 => repeat (first | exact (Kd.R_reads' HO127.out).2.2 | (with_reducible refine Kd.C_alloc ?_ _) | (with_reducible refine Kd.C_drewN ?_ _) | (with_reducible refine Kd.C_drew ?_))); (case side2 => exact (Kd.R_reads' HO127.out).2.1); rintro e w' ⟨rfl, ⟨nd, rfl⟩⟩; refine ⟨_, rfl, ?_⟩; have hcz9_0 : w6.cell? ⟨gb124, 0, none⟩ = some (.int .i64 a0_0) := (bCe BK124.out 0).trans rfl; have hcz9_1 : w6.cell? ⟨gb124, 1, none⟩ = some (.int .i64 a0_1) := (bCe BK124.out 1).trans rfl; have hcz9_2 : w6.cell? ⟨gb124, 2, none⟩ = some (.int .i64 a0_2) := (bCe BK124.out 2).trans rfl; have hfz9_0 := bFz BK124.out 0; have hfz9_1 := bFz BK124.out 1; have hfz9_2 := bFz BK124.out 2))
  go_ret
  exact ⟨by first | rfl | (simp [errW_none, errW_some] <;> rfl) | (simp [*, errW_none, errW_some] <;> rfl), by repeat (first | (with_reducible first | exact HB.out | apply beA | apply bpN | apply bd1 | refine beS ?_ GE124.out) | exact HB.out)⟩
 ·replace c3 := Bool.eq_false_iff.mpr c3
  subst c3
  have H1 : (some false) = some r := by rw [if_neg (show ¬ (false = true) by decide)] at H; exact H
  clear H
  have H := H1
  clear H1
  obtain rfl := Option.some.inj H
  go_enter Try.func60, Try.ntmps60
  go_wp2_with (first | ((with_reducible refine gate_dst (N := 1) rfl ?_); refine box_event ?hg (N := 1) ?hd (cs := #[.int .i64 a0_0, .int .i64 a0_1, .int .i64 a0_2]) (t := 71) ?hr ?_; (case hd => rfl); (case hg => rfl); (case hr => first | (go_simp; done) | (go_simp; rfl)); intro gb124 hg w10 hbox hb; have n0_ := Z0.mk (below_step (by repeat (first | (with_reducible first | exact HB.out | apply beA | apply bpN | apply bd1) | exact HB.out)) hb); have n1_ := Z0.mk (hbox); have n2_ := Z0.mk ((by rw [hg]; exact (below_size (by repeat (first | (with_reducible first | exact HB.out | apply beA | apply bpN | apply bd1) | exact HB.out))) : w.heap.size ≤ gb124)); have n3_ := Z0.mk ((by rw [hg]; exact (below_size (by repeat (first | (with_reducible first | exact HB.out | apply beA | apply bpN | apply bd1) | exact HB.out))) : w.heap.size ≤ gb124)); clear HB; have HB := n0_; have BK124 := n1_; have GW124 := n2_; have GE124 := n3_; clear n0_ n1_ n2_ n3_; clear hb hbox hg; have hcz11_0 : w10.cell? ⟨gb124, 0, none⟩ = some (.int .i64 a0_0) := (bCe BK124.out 0).trans rfl; have hcz11_1 : w10.cell? ⟨gb124, 1, none⟩ = some (.int .i64 a0_1) := (bCe BK124.out 1).trans rfl; have hcz11_2 : w10.cell? ⟨gb124, 2, none⟩ = some (.int .i64 a0_2) := (bCe BK124.out 2).trans rfl; have hfz11_0 := bFz BK124.out 0; have hfz11_1 := bFz BK124.out 1; have hfz11_2 := bFz BK124.out 2) | ((with_reducible refine gate_dst (N := 9) rfl ?_); refine Kd.R_lit (Kd.int .i64) _ 3 ?hg (N := 9) ?hd (xs := ([a0_0, a0_1, a0_2] : List Int)) (inner := [.int .i64 a0_0, .int .i64 a0_1, .int .i64 a0_2]) (ok := fun _ => True) (okp := fun _ => True) ?hr ?hp (fun _ hk => hk) trivial (Below.refl _ _) (Nat.le_refl _) (by simp) ?_; (case hd => rfl); (case hg => rfl); (case hr => first | (go_simp; done) | (go_simp; rfl)); (case hp => exact (Reps.one (show Kd.M (Kd.int .i64) _ _ _ a0_0 [.int .i64 a0_0] from rfl) (Reps.one (show Kd.M (Kd.int .i64) _ _ _ a0_1 [.int .i64 a0_1] from rfl) (Reps.one (show Kd.M (Kd.int .i64) _ _ _ a0_2 [.int .i64 a0_2] from rfl) (Reps.none _ _))))); intro v126 w12 ho13 hb hg_ hnew_; clear hg_ hnew_; (first | rw [← Ny125.out] at ho13 | (simp only [Int.reduceToNat] at ho13; rw [← Ny125.out] at ho13)); have n0_ := Z0.mk (Kd.R_lower ho13 (below_size (by repeat (first | (with_reducible first | exact HB.out | apply beA | apply bpN | apply bd1 | refine beS ?_ GE124.out) | exact HB.out)))); have n1_ := Z0.mk (blk_below (g := gb124) (o := .cells #[.int .i64 a0_0, .int .i64 a0_1, .int .i64 a0_2] 71 (0, 0)) (by (with_reducible repeat (first | refine bDN ?_ _ | refine bDr ?_ | refine bAl ?_ _)); exact BK124.out) hb); have n2_ := Z0.mk (below_step (by repeat (first | (with_reducible first | exact HB.out | apply beA | apply bpN | apply bd1 | refine beS ?_ GE124.out) | exact HB.out)) hb); clear BK124; clear HB; have HO127 := n0_; have BK124 := n1_; have HB := n2_; clear n0_ n1_ n2_; clear hb ho13; obtain ⟨Ao14, co14, eo14⟩ := Kd.R_slice HO127.out; subst eo14) | ((with_reducible refine gate_callee (f := 77) rfl ?_); refine goesL_ (some 10) rfl rfl Try.func77 (by kernel_rfl) rfl #[.slice Ao14 y125.length co14] rfl (by (try simp only [List.map_toArray, List.map_cons, List.map_nil]); first | done | rfl | (simp only [List.length_drop, List.length_take]; rfl)) ?_; (with_reducible refine (agg_fits.calls k _ _ y125 false _ ?side1 ?side2 A2.out).mono ?_); (case side1 => repeat (first | exact (Kd.R_reads' HO127.out).2.2 | (with_reducible refine Kd.C_alloc ?_ _) | (with_reducible refine Kd.C_drewN ?_ _) | (with_reducible refine Kd.C_drew ?_))); (case side2 => exact (Kd.R_reads' HO127.out).2.1); rintro e w' ⟨rfl, ⟨nd, rfl⟩⟩; refine ⟨_, rfl, ?_⟩))
  go_ret
  exact ⟨by first | rfl | (simp [errW_none, errW_some] <;> rfl) | (simp [*, errW_none, errW_some] <;> rfl), by repeat (first | (with_reducible first | exact HB.out | apply beA | apply bpN | apply bd1 | refine beS ?_ GE124.out) | exact HB.out)⟩
end Go.Proofs.Ytdeeffahfkndkaa.P
namespace Go.Proofs.Ytdeeffahfkndkaa.P
open Go.RowKit Go.Proofs.YtdeeffahfkndkaaW.PrintWords Go.Proofs.YtdeeffahfkndkaaW.PrintLast Go.Proofs.YtdeeffahfkndkaaW.PrintMore
attribute [local go_sem] max2_int min2_int max_two min_two max_three min_three max_four min_four
set_option linter.unusedVariables false
set_option linter.unusedSimpArgs false
def agg_Join.j0 : Nat → Bool → Int → Int → Int → Int → Int → Int → Option (Int × Int × Int × Int)
 | 0, _, _, _, _, _, _, _ => none
 | k + 1, x13, x130000, x130001, x130002, x131000, x131001, x131002 => if x13 = true then (some (0, 0, 0, 1)) else (if x130000 > 0 then (if x131000 > (wrap64 (4611686018427387904 - x130000)) then (some (0, 0, 0, 121)) else (if x130000 < 0 then (if x131000 < (wrap64 ((-4611686018427387904) - x130000)) then (some (0, 0, 0, 121)) else (some (wrap64 (x130000 + x131000), mn x130001 x131001, mx x130002 x131002, 0))) else (some (wrap64 (x130000 + x131000), mn x130001 x131001, mx x130002 x131002, 0)))) else (if x130000 < 0 then (if x131000 < (wrap64 ((-4611686018427387904) - x130000)) then (some (0, 0, 0, 121)) else (some (wrap64 (x130000 + x131000), mn x130001 x131001, mx x130002 x131002, 0))) else (some (wrap64 (x130000 + x131000), mn x130001 x131001, mx x130002 x131002, 0))))
def agg_Join.f (k : Nat) (a0_0 : Int) (a0_1 : Int) (a0_2 : Int) (a1_0 : Int) (a1_1 : Int) (a1_2 : Int) : Option (Int × Int × Int × Int) := (agg_Right.f k a0_0 a0_1 a0_2).bind fun t132 => (if t132 = true then ((agg_Right.f k a1_0 a1_1 a1_2).bind fun t133 => (agg_Join.j0 k (!t133) a0_0 a0_1 a0_2 a1_0 a1_1 a1_2)) else (agg_Join.j0 k true a0_0 a0_1 a0_2 a1_0 a1_1 a1_2))
set_option maxHeartbeats 8000000 in
set_option maxRecDepth 100000 in
theorem agg_Join.calls (k : Nat) (a0_0 : Int) (a0_1 : Int) (a0_2 : Int) (a1_0 : Int) (a1_1 : Int) (a1_2 : Int) (r1 : Int) (r2 : Int) (r3 : Int) (r4 : Int) (w : World) (h : agg_Join.f k a0_0 a0_1 a0_2 a1_0 a1_1 a1_2 = some (r1, r2, r3, r4)) :
  Calls Try.prog 43 #[.agg #[.int .i64 a0_0, .int .i64 a0_1, .int .i64 a0_2], .agg #[.int .i64 a1_0, .int .i64 a1_1, .int .i64 a1_2]] w fun e w' => e = .returned (.tuple #[.agg #[.int .i64 r1, .int .i64 r2, .int .i64 r3], .int .i64 r4]) ∧ Below w.heap.size w w' := by
 have hu71 := Try.underlying71
 have HB := Z0.mk (Below.refl w.heap.size w)
 have H : ((agg_Right.f k a0_0 a0_1 a0_2).bind fun t132 => (if t132 = true then ((agg_Right.f k a1_0 a1_1 a1_2).bind fun t133 => (agg_Join.j0 k (!t133) a0_0 a0_1 a0_2 a1_0 a1_1 a1_2)) else (agg_Join.j0 k true a0_0 a0_1 a0_2 a1_0 a1_1 a1_2))) = some (r1, r2, r3, r4) := h
 clear h
 have HC3 := Z0.mk H
 clear H
 go_enter Try.func43, Try.ntmps43
 go_upto_region 1 with (first | ((with_reducible refine gate_dst (N := 2) rfl ?_); refine box_event ?hg (N := 2) ?hd (cs := #[.int .i64 a0_0, .int .i64 a0_1, .int .i64 a0_2]) (t := 71) ?hr ?_; (case hd => rfl); (case hg => rfl); (case hr => first | (go_simp; done) | (go_simp; rfl)); intro gb129 hg w4 hbox hb; have n0_ := Z0.mk (below_step (by repeat (first | (with_reducible first | exact HB.out | apply beA | apply bpN | apply bd1) | exact HB.out)) hb); have n1_ := Z0.mk (hbox); have n2_ := Z0.mk ((by rw [hg]; exact (below_size (by repeat (first | (with_reducible first | exact HB.out | apply beA | apply bpN | apply bd1) | exact HB.out))) : w.heap.size ≤ gb129)); have n3_ := Z0.mk ((by rw [hg]; exact (below_size (by repeat (first | (with_reducible first | exact HB.out | apply beA | apply bpN | apply bd1) | exact HB.out))) : w.heap.size ≤ gb129)); clear HB; have HB := n0_; have BK129 := n1_; have GW129 := n2_; have GE129 := n3_; clear n0_ n1_ n2_ n3_; clear hb hbox hg) | ((with_reducible refine gate_dst (N := 3) rfl ?_); refine box_event ?hg (N := 3) ?hd (cs := #[.int .i64 a1_0, .int .i64 a1_1, .int .i64 a1_2]) (t := 71) ?hr ?_; (case hd => rfl); (case hg => rfl); (case hr => first | (go_simp; done) | (go_simp; rfl)); intro gb130 hg w5 hbox hb; have n0_ := Z0.mk (blk_below (g := gb129) (o := .cells #[.int .i64 a0_0, .int .i64 a0_1, .int .i64 a0_2] 71 (0, 0)) (by (with_reducible repeat (first | refine bDN ?_ _ | refine bDr ?_ | refine bAl ?_ _)); exact BK129.out) hb); have n1_ := Z0.mk (below_step (by repeat (first | (with_reducible first | exact HB.out | apply beA | apply bpN | apply bd1 | refine beS ?_ GE129.out) | exact HB.out)) hb); have n2_ := Z0.mk (hbox); have n3_ := Z0.mk ((by rw [hg]; exact (below_size (by repeat (first | (with_reducible first | exact HB.out | apply beA | apply bpN | apply bd1 | refine beS ?_ GE129.out) | exact HB.out))) : w.heap.size ≤ gb130)); have n4_ := Z0.mk ((by rw [hg]; exact (below_size (by repeat (first | (with_reducible first | exact HB.out | apply beA | apply bpN | apply bd1 | refine beS ?_ GE129.out) | exact HB.out))) : w.heap.size ≤ gb130)); have n5_ := Z0.mk ((by rw [hg]; exact Nat.ne_of_lt (blk_lt (g := gb129) (o := .cells #[.int .i64 a0_0, .int .i64 a0_1, .int .i64 a0_2] 71 (0, 0)) (by (with_reducible repeat (first | refine bDN ?_ _ | refine bDr ?_ | refine bAl ?_ _)); exact BK129.out)) : gb129 ≠ gb130)); have n6_ := Z0.mk ((by rw [hg]; exact Nat.ne_of_gt (blk_lt (g := gb129) (o := .cells #[.int .i64 a0_0, .int .i64 a0_1, .int .i64 a0_2] 71 (0, 0)) (by (with_reducible repeat (first | refine bDN ?_ _ | refine bDr ?_ | refine bAl ?_ _)); exact BK129.out)) : gb130 ≠ gb129)); clear BK129; clear HB; have BK129 := n0_; have HB := n1_; have BK130 := n2_; have GW130 := n3_; have GE130 := n4_; have NB129_130 := n5_; have NB130_129 := n6_; clear n0_ n1_ n2_ n3_ n4_ n5_ n6_; clear hb hbox hg) | ((with_reducible refine gate_dst (N := 4) rfl ?_); refine box_event ?hg (N := 4) ?hd (cs := #[.int .i64 0, .int .i64 0, .int .i64 0]) (t := 71) ?hr ?_; (case hd => rfl); (case hg => rfl); (case hr => first | (go_simp; done) | (go_simp; rfl)); intro gb131 hg w6 hbox hb; have n0_ := Z0.mk (blk_below (g := gb129) (o := .cells #[.int .i64 a0_0, .int .i64 a0_1, .int .i64 a0_2] 71 (0, 0)) (by (with_reducible repeat (first | refine bDN ?_ _ | refine bDr ?_ | refine bAl ?_ _)); exact BK129.out) hb); have n1_ := Z0.mk (blk_below (g := gb130) (o := .cells #[.int .i64 a1_0, .int .i64 a1_1, .int .i64 a1_2] 71 (0, 0)) (by (with_reducible repeat (first | refine bDN ?_ _ | refine bDr ?_ | refine bAl ?_ _)); exact BK130.out) hb); have n2_ := Z0.mk (below_step (by repeat (first | (with_reducible first | exact HB.out | apply beA | apply bpN | apply bd1 | refine beS ?_ GE129.out | refine beS ?_ GE130.out) | exact HB.out)) hb); have n3_ := Z0.mk (hbox); have n4_ := Z0.mk ((by rw [hg]; exact (below_size (by repeat (first | (with_reducible first | exact HB.out | apply beA | apply bpN | apply bd1 | refine beS ?_ GE129.out | refine beS ?_ GE130.out) | exact HB.out))) : w.heap.size ≤ gb131)); have n5_ := Z0.mk ((by rw [hg]; exact (below_size (by repeat (first | (with_reducible first | exact HB.out | apply beA | apply bpN | apply bd1 | refine beS ?_ GE129.out | refine beS ?_ GE130.out) | exact HB.out))) : w.heap.size ≤ gb131)); have n6_ := Z0.mk ((by rw [hg]; exact Nat.ne_of_lt (blk_lt (g := gb129) (o := .cells #[.int .i64 a0_0, .int .i64 a0_1, .int .i64 a0_2] 71 (0, 0)) (by (with_reducible repeat (first | refine bDN ?_ _ | refine bDr ?_ | refine bAl ?_ _)); exact BK129.out)) : gb129 ≠ gb131)); have n7_ := Z0.mk ((by rw [hg]; exact Nat.ne_of_gt (blk_lt (g := gb129) (o := .cells #[.int .i64 a0_0, .int .i64 a0_1, .int .i64 a0_2] 71 (0, 0)) (by (with_reducible repeat (first | refine bDN ?_ _ | refine bDr ?_ | refine bAl ?_ _)); exact BK129.out)) : gb131 ≠ gb129)); have n8_ := Z0.mk ((by rw [hg]; exact Nat.ne_of_lt (blk_lt (g := gb130) (o := .cells #[.int .i64 a1_0, .int .i64 a1_1, .int .i64 a1_2] 71 (0, 0)) (by (with_reducible repeat (first | refine bDN ?_ _ | refine bDr ?_ | refine bAl ?_ _)); exact BK130.out)) : gb130 ≠ gb131)); have n9_ := Z0.mk ((by rw [hg]; exact Nat.ne_of_gt (blk_lt (g := gb130) (o := .cells #[.int .i64 a1_0, .int .i64 a1_1, .int .i64 a1_2] 71 (0, 0)) (by (with_reducible repeat (first | refine bDN ?_ _ | refine bDr ?_ | refine bAl ?_ _)); exact BK130.out)) : gb131 ≠ gb130)); clear BK129; clear BK130; clear HB; have BK129 := n0_; have BK130 := n1_; have HB := n2_; have BK131 := n3_; have GW131 := n4_; have GE131 := n5_; have NB129_131 := n6_; have NB131_129 := n7_; have NB130_131 := n8_; have NB131_130 := n9_; clear n0_ n1_ n2_ n3_ n4_ n5_ n6_ n7_ n8_ n9_; clear hb hbox hg))
 (try simp only [Act.put, qA, qB, qC])
 go_cut [13] (fun v13 wc => ∃ (kq : Nat) (x13_2 : Bool), v13 = .bool x13_2 ∧ Z0 (agg_Join.j0 kq x13_2 a0_0 a0_1 a0_2 a1_0 a1_1 a1_2 = some (r1, r2, r3, r4)) ∧ Z0 (kq ≤ k) ∧ Z0 (wc.heap[gb129]? = some (.cells #[.int .i64 a0_0, .int .i64 a0_1, .int .i64 a0_2] 71 (0, 0))) ∧ Z0 (wc.heap[gb130]? = some (.cells #[.int .i64 a1_0, .int .i64 a1_1, .int .i64 a1_2] 71 (0, 0))) ∧ Z0 (wc.heap[gb131]? = some (.cells #[.int .i64 0, .int .i64 0, .int .i64 0] 71 (0, 0))) ∧ Z0 (Below w.heap.size w wc))
 case first =>
  have H := HC3.out
  clear HC3
  replace H := Option.bind_eq_some_iff.mp H
  obtain ⟨t132, A70, H⟩ := H
  replace H : (if t132 = true then ((agg_Right.f k a1_0 a1_1 a1_2).bind fun t133 => (agg_Join.j0 k (!t133) a0_0 a0_1 a0_2 a1_0 a1_1 a1_2)) else (agg_Join.j0 k true a0_0 a0_1 a0_2 a1_0 a1_1 a1_2)) = some (r1, r2, r3, r4) := H
  have A7 := Z0.mk A70
  clear A70
  by_cases c8 : t132 = true
  ·subst c8
   have H1 : ((agg_Right.f k a1_0 a1_1 a1_2).bind fun t133 => (agg_Join.j0 k (!t133) a0_0 a0_1 a0_2 a1_0 a1_1 a1_2)) = some (r1, r2, r3, r4) := by rw [if_pos rfl] at H; exact H
   clear H
   have H := H1
   clear H1
   replace H := Option.bind_eq_some_iff.mp H
   obtain ⟨t133, A90, H⟩ := H
   replace H : (agg_Join.j0 k (!t133) a0_0 a0_1 a0_2 a1_0 a1_1 a1_2) = some (r1, r2, r3, r4) := H
   have A9 := Z0.mk A90
   clear A90
   have H' := Z0.mk H
   clear H
   have hnb10 := NB129_130.out
   have hnc10 := NB130_129.out
   have hnb11 := NB129_131.out
   have hnc11 := NB131_129.out
   have hcz12_0 : w6.cell? ⟨gb129, 0, none⟩ = some (.int .i64 a0_0) := (bCe BK129.out 0).trans rfl
   have hcz12_1 : w6.cell? ⟨gb129, 1, none⟩ = some (.int .i64 a0_1) := (bCe BK129.out 1).trans rfl
   have hcz12_2 : w6.cell? ⟨gb129, 2, none⟩ = some (.int .i64 a0_2) := (bCe BK129.out 2).trans rfl
   have hfz12_0 := bFz BK129.out 0
   have hfz12_1 := bFz BK129.out 1
   have hfz12_2 := bFz BK129.out 2
   go_wp2_with (first | ((with_reducible refine gate_callee (f := 60) rfl ?_); refine goesL_ (some 7) rfl rfl Try.func60 (by kernel_rfl) rfl #[.agg #[.int .i64 a0_0, .int .i64 a0_1, .int .i64 a0_2]] rfl (by (try simp only [List.map_toArray, List.map_cons, List.map_nil]); first | done | rfl | (simp only [List.length_drop, List.length_take]; rfl)) ?_; (with_reducible refine (agg_Right.calls k a0_0 a0_1 a0_2 true _ A7.out).mono ?_); rintro e w13 ⟨rfl, hb⟩; refine ⟨_, rfl, ?_⟩; have n0_ := Z0.mk (blk_below (g := gb129) (o := .cells #[.int .i64 a0_0, .int .i64 a0_1, .int .i64 a0_2] 71 (0, 0)) (by (with_reducible repeat (first | refine bDN ?_ _ | refine bDr ?_ | refine bAl ?_ _)); exact BK129.out) hb); have n1_ := Z0.mk (blk_below (g := gb130) (o := .cells #[.int .i64 a1_0, .int .i64 a1_1, .int .i64 a1_2] 71 (0, 0)) (by (with_reducible repeat (first | refine bDN ?_ _ | refine bDr ?_ | refine bAl ?_ _)); exact BK130.out) hb); have n2_ := Z0.mk (blk_below (g := gb131) (o := .cells #[.int .i64 0, .int .i64 0, .int .i64 0] 71 (0, 0)) (by (with_reducible repeat (first | refine bDN ?_ _ | refine bDr ?_ | refine bAl ?_ _)); exact BK131.out) hb); have n3_ := Z0.mk (below_step (by repeat (first | (with_reducible first | exact HB.out | apply beA | apply bpN | apply bd1 | refine beS ?_ GE129.out | refine beS ?_ GE130.out | refine beS ?_ GE131.out) | exact HB.out)) hb); clear BK129; clear BK130; clear BK131; clear HB; have BK129 := n0_; have BK130 := n1_; have BK131 := n2_; have HB := n3_; clear n0_ n1_ n2_ n3_; (try clear hb); (try clear hb2); (try clear hk); (try clear hi); have hnb14 := NB130_131.out; have hnc14 := NB131_130.out; have hcz15_0 : w13.cell? ⟨gb130, 0, none⟩ = some (.int .i64 a1_0) := (bCe BK130.out 0).trans rfl; have hcz15_1 : w13.cell? ⟨gb130, 1, none⟩ = some (.int .i64 a1_1) := (bCe BK130.out 1).trans rfl; have hcz15_2 : w13.cell? ⟨gb130, 2, none⟩ = some (.int .i64 a1_2) := (bCe BK130.out 2).trans rfl; have hfz15_0 := bFz BK130.out 0; have hfz15_1 := bFz BK130.out 1; have hfz15_2 := bFz BK130.out 2) | (go_at_call 60; (with_reducible refine (agg_Right.calls k a1_0 a1_1 a1_2 t133 _ A9.out).mono ?_); rintro e w16 ⟨rfl, hb⟩; have n0_ := Z0.mk (blk_below (g := gb129) (o := .cells #[.int .i64 a0_0, .int .i64 a0_1, .int .i64 a0_2] 71 (0, 0)) (by (with_reducible repeat (first | refine bDN ?_ _ | refine bDr ?_ | refine bAl ?_ _)); exact BK129.out) hb); have n1_ := Z0.mk (blk_below (g := gb130) (o := .cells #[.int .i64 a1_0, .int .i64 a1_1, .int .i64 a1_2] 71 (0, 0)) (by (with_reducible repeat (first | refine bDN ?_ _ | refine bDr ?_ | refine bAl ?_ _)); exact BK130.out) hb); have n2_ := Z0.mk (blk_below (g := gb131) (o := .cells #[.int .i64 0, .int .i64 0, .int .i64 0] 71 (0, 0)) (by (with_reducible repeat (first | refine bDN ?_ _ | refine bDr ?_ | refine bAl ?_ _)); exact BK131.out) hb); have n3_ := Z0.mk (below_step (by repeat (first | (with_reducible first | exact HB.out | apply beA | apply bpN | apply bd1 | refine beS ?_ GE129.out | refine beS ?_ GE130.out | refine beS ?_ GE131.out) | exact HB.out)) hb); clear BK129; clear BK130; clear BK131; clear HB; have BK129 := n0_; have BK130 := n1_; have BK131 := n2_; have HB := n3_; clear n0_ n1_ n2_ n3_; (try clear hb); (try clear hb2); (try clear hk); (try clear hi)))
   go_meet
   case rel => exact ⟨_, (!t133), (by first | rfl | (simp; done) | (simp [*]; done)), H', ⟨by first | omega | exact Nat.le_refl _⟩, ⟨by (with_reducible repeat (first | refine bDN ?_ _ | refine bDr ?_ | refine bAl ?_ _)); exact BK129.out⟩, ⟨by (with_reducible repeat (first | refine bDN ?_ _ | refine bDr ?_ | refine bAl ?_ _)); exact BK130.out⟩, ⟨by (with_reducible repeat (first | refine bDN ?_ _ | refine bDr ?_ | refine bAl ?_ _)); exact BK131.out⟩, ⟨by repeat (first | (with_reducible first | exact HB.out | apply beA | apply bpN | apply bd1 | refine beS ?_ GE129.out | refine beS ?_ GE130.out | refine beS ?_ GE131.out) | exact HB.out)⟩⟩
  ·replace c8 := Bool.eq_false_iff.mpr c8
   subst c8
   have H1 : (agg_Join.j0 k true a0_0 a0_1 a0_2 a1_0 a1_1 a1_2) = some (r1, r2, r3, r4) := by rw [if_neg (show ¬ (false = true) by decide)] at H; exact H
   clear H
   have H := H1
   clear H1
   have H' := Z0.mk H
   clear H
   have hnb17 := NB129_130.out
   have hnc17 := NB130_129.out
   have hnb18 := NB129_131.out
   have hnc18 := NB131_129.out
   have hcz19_0 : w6.cell? ⟨gb129, 0, none⟩ = some (.int .i64 a0_0) := (bCe BK129.out 0).trans rfl
   have hcz19_1 : w6.cell? ⟨gb129, 1, none⟩ = some (.int .i64 a0_1) := (bCe BK129.out 1).trans rfl
   have hcz19_2 : w6.cell? ⟨gb129, 2, none⟩ = some (.int .i64 a0_2) := (bCe BK129.out 2).trans rfl
   have hfz19_0 := bFz BK129.out 0
   have hfz19_1 := bFz BK129.out 1
   have hfz19_2 := bFz BK129.out 2
   go_wp2_with (first | ((with_reducible refine gate_callee (f := 60) rfl ?_); refine goesL_ (some 7) rfl rfl Try.func60 (by kernel_rfl) rfl #[.agg #[.int .i64 a0_0, .int .i64 a0_1, .int .i64 a0_2]] rfl (by (try simp only [List.map_toArray, List.map_cons, List.map_nil]); first | done | rfl | (simp only [List.length_drop, List.length_take]; rfl)) ?_; (with_reducible refine (agg_Right.calls k a0_0 a0_1 a0_2 false _ A7.out).mono ?_); rintro e w20 ⟨rfl, hb⟩; refine ⟨_, rfl, ?_⟩; have n0_ := Z0.mk (blk_below (g := gb129) (o := .cells #[.int .i64 a0_0, .int .i64 a0_1, .int .i64 a0_2] 71 (0, 0)) (by (with_reducible repeat (first | refine bDN ?_ _ | refine bDr ?_ | refine bAl ?_ _)); exact BK129.out) hb); have n1_ := Z0.mk (blk_below (g := gb130) (o := .cells #[.int .i64 a1_0, .int .i64 a1_1, .int .i64 a1_2] 71 (0, 0)) (by (with_reducible repeat (first | refine bDN ?_ _ | refine bDr ?_ | refine bAl ?_ _)); exact BK130.out) hb); have n2_ := Z0.mk (blk_below (g := gb131) (o := .cells #[.int .i64 0, .int .i64 0, .int .i64 0] 71 (0, 0)) (by (with_reducible repeat (first | refine bDN ?_ _ | refine bDr ?_ | refine bAl ?_ _)); exact BK131.out) hb); have n3_ := Z0.mk (below_step (by repeat (first | (with_reducible first | exact HB.out | apply beA | apply bpN | apply bd1 | refine beS ?_ GE129.out | refine beS ?_ GE130.out | refine beS ?_ GE131.out) | exact HB.out)) hb); clear BK129; clear BK130; clear BK131; clear HB; have BK129 := n0_; have BK130 := n1_; have BK131 := n2_; have HB := n3_; clear n0_ n1_ n2_ n3_; (try clear hb); (try clear hb2); (try clear hk); (try clear hi)))
   go_meet
   case rel => exact ⟨_, (true), (by first | rfl | (simp; done) | (simp [*]; done)), H', ⟨by first | omega | exact Nat.le_refl _⟩, ⟨by (with_reducible repeat (first | refine bDN ?_ _ | refine bDr ?_ | refine bAl ?_ _)); exact BK129.out⟩, ⟨by (with_reducible repeat (first | refine bDN ?_ _ | refine bDr ?_ | refine bAl ?_ _)); exact BK130.out⟩, ⟨by (with_reducible repeat (first | refine bDN ?_ _ | refine bDr ?_ | refine bAl ?_ _)); exact BK131.out⟩, ⟨by repeat (first | (with_reducible first | exact HB.out | apply beA | apply bpN | apply bd1 | refine beS ?_ GE129.out | refine beS ?_ GE130.out | refine beS ?_ GE131.out) | exact HB.out)⟩⟩
 case rest =>
  clear HC3
  try clear c1
  try clear p2
  try clear c4
  try clear c6
  try clear c8
  try clear c10
  try clear c11
  try clear c14
  try clear c17
  try clear c18
  try clear hcz12_0
  try clear hcz12_1
  try clear hcz12_2
  try clear hcz15_0
  try clear hcz15_1
  try clear hcz15_2
  try clear hcz19_0
  try clear hcz19_1
  try clear hcz19_2
  try clear hfz12_0
  try clear hfz12_1
  try clear hfz12_2
  try clear hfz15_0
  try clear hfz15_1
  try clear hfz15_2
  try clear hfz19_0
  try clear hfz19_1
  try clear hfz19_2
  obtain ⟨kq, x13_2, rfl, HA, HJ2, BK129, BK130, BK131, HB⟩ := hcut
  cases kq with
  | zero => exact absurd HA.out (by simp [agg_Join.j0])
  | succ kj2 =>
   have H := HA.out
   clear HA
   simp only [agg_Join.j0] at H
   by_cases c21 : x13_2 = true
   ·subst c21
    have H1 : (some (0, 0, 0, 1)) = some (r1, r2, r3, r4) := by rw [if_pos rfl] at H; exact H
    clear H
    have H := H1
    clear H1
    simp only [Option.some.injEq, Prod.mk.injEq] at H
    obtain ⟨rfl, rfl, rfl, rfl⟩ := H
    have hnb22 := NB131_129.out
    have hnc22 := NB129_131.out
    have hnb23 := NB131_130.out
    have hnc23 := NB130_131.out
    have hcz24_0 : wc.cell? ⟨gb131, 0, none⟩ = some (.int .i64 0) := (bCe BK131.out 0).trans rfl
    have hcz24_1 : wc.cell? ⟨gb131, 1, none⟩ = some (.int .i64 0) := (bCe BK131.out 1).trans rfl
    have hcz24_2 : wc.cell? ⟨gb131, 2, none⟩ = some (.int .i64 0) := (bCe BK131.out 2).trans rfl
    have hfz24_0 := bFz BK131.out 0
    have hfz24_1 := bFz BK131.out 1
    have hfz24_2 := bFz BK131.out 2
    go_wp2
    refine bodyPost_ret (results_ct rfl _ _ gb131 71 #[.int .i64 0, .int .i64 0, .int .i64 0] (0, 0) _ rfl (by (with_reducible repeat (first | refine bDN ?_ _ | refine bDr ?_ | refine bAl ?_ _)); refine blk_put (cs := #[.int .i64 0, .int .i64 0, .int .i64 0]) ?_ 2 _ rfl; (with_reducible repeat (first | refine bDN ?_ _ | refine bDr ?_ | refine bAl ?_ _)); refine blk_put (cs := #[.int .i64 0, .int .i64 0, .int .i64 0]) ?_ 1 _ rfl; (with_reducible repeat (first | refine bDN ?_ _ | refine bDr ?_ | refine bAl ?_ _)); refine blk_put (cs := #[.int .i64 0, .int .i64 0, .int .i64 0]) ?_ 0 _ rfl; (with_reducible repeat (first | refine bDN ?_ _ | refine bDr ?_ | refine bAl ?_ _)); exact BK131.out) Try.underlying71 rfl (by kernel_rfl)) rfl ?_
    exact ⟨by first | rfl | (simp [errW_none, errW_some] <;> rfl) | (simp [*, errW_none, errW_some] <;> rfl), by repeat (first | (with_reducible first | exact HB.out | apply beA | apply bpN | apply bd1 | refine beS ?_ GE129.out | refine beS ?_ GE130.out | refine beS ?_ GE131.out) | exact HB.out)⟩
   ·replace c21 := Bool.eq_false_iff.mpr c21
    subst c21
    have H1 : (if a0_0 > 0 then (if a1_0 > (wrap64 (4611686018427387904 - a0_0)) then (some (0, 0, 0, 121)) else (if a0_0 < 0 then (if a1_0 < (wrap64 ((-4611686018427387904) - a0_0)) then (some (0, 0, 0, 121)) else (some (wrap64 (a0_0 + a1_0), mn a0_1 a1_1, mx a0_2 a1_2, 0))) else (some (wrap64 (a0_0 + a1_0), mn a0_1 a1_1, mx a0_2 a1_2, 0)))) else (if a0_0 < 0 then (if a1_0 < (wrap64 ((-4611686018427387904) - a0_0)) then (some (0, 0, 0, 121)) else (some (wrap64 (a0_0 + a1_0), mn a0_1 a1_1, mx a0_2 a1_2, 0))) else (some (wrap64 (a0_0 + a1_0), mn a0_1 a1_1, mx a0_2 a1_2, 0)))) = some (r1, r2, r3, r4) := by rw [if_neg (show ¬ (false = true) by decide)] at H; exact H
    clear H
    have H := H1
    clear H1
    by_cases c25 : a0_0 > 0
    ·rw [if_pos c25] at H
     have c25b0 : decide (0 < a0_0) = true := decide_eq_true c25
     clear c25
     by_cases c26 : a1_0 > (wrap64 (4611686018427387904 - a0_0))
     ·rw [if_pos c26] at H
      have c26b0 : decide ((wrap64 (4611686018427387904 - a0_0)) < a1_0) = true := decide_eq_true c26
      clear c26
      simp only [Option.some.injEq, Prod.mk.injEq] at H
      obtain ⟨rfl, rfl, rfl, rfl⟩ := H
      have hnb27 := NB129_130.out
      have hnc27 := NB130_129.out
      have hnb28 := NB129_131.out
      have hnc28 := NB131_129.out
      have hcz29_0 : wc.cell? ⟨gb129, 0, none⟩ = some (.int .i64 a0_0) := (bCe BK129.out 0).trans rfl
      have hcz29_1 : wc.cell? ⟨gb129, 1, none⟩ = some (.int .i64 a0_1) := (bCe BK129.out 1).trans rfl
      have hcz29_2 : wc.cell? ⟨gb129, 2, none⟩ = some (.int .i64 a0_2) := (bCe BK129.out 2).trans rfl
      have hfz29_0 := bFz BK129.out 0
      have hfz29_1 := bFz BK129.out 1
      have hfz29_2 := bFz BK129.out 2
      have hnb30 := NB130_131.out
      have hnc30 := NB131_130.out
      have hcz31_0 : wc.cell? ⟨gb130, 0, none⟩ = some (.int .i64 a1_0) := (bCe BK130.out 0).trans rfl
      have hcz31_1 : wc.cell? ⟨gb130, 1, none⟩ = some (.int .i64 a1_1) := (bCe BK130.out 1).trans rfl
      have hcz31_2 : wc.cell? ⟨gb130, 2, none⟩ = some (.int .i64 a1_2) := (bCe BK130.out 2).trans rfl
      have hfz31_0 := bFz BK130.out 0
      have hfz31_1 := bFz BK130.out 1
      have hfz31_2 := bFz BK130.out 2
      have hcz32_0 : wc.cell? ⟨gb131, 0, none⟩ = some (.int .i64 0) := (bCe BK131.out 0).trans rfl
      have hcz32_1 : wc.cell? ⟨gb131, 1, none⟩ = some (.int .i64 0) := (bCe BK131.out 1).trans rfl
      have hcz32_2 : wc.cell? ⟨gb131, 2, none⟩ = some (.int .i64 0) := (bCe BK131.out 2).trans rfl
      have hfz32_0 := bFz BK131.out 0
      have hfz32_1 := bFz BK131.out 1
      have hfz32_2 := bFz BK131.out 2
      go_wp2
      refine bodyPost_ret (results_ct rfl _ _ gb131 71 #[.int .i64 0, .int .i64 0, .int .i64 0] (0, 0) _ rfl (by (with_reducible repeat (first | refine bDN ?_ _ | refine bDr ?_ | refine bAl ?_ _)); refine blk_put (cs := #[.int .i64 0, .int .i64 0, .int .i64 0]) ?_ 2 _ rfl; (with_reducible repeat (first | refine bDN ?_ _ | refine bDr ?_ | refine bAl ?_ _)); refine blk_put (cs := #[.int .i64 0, .int .i64 0, .int .i64 0]) ?_ 1 _ rfl; (with_reducible repeat (first | refine bDN ?_ _ | refine bDr ?_ | refine bAl ?_ _)); refine blk_put (cs := #[.int .i64 0, .int .i64 0, .int .i64 0]) ?_ 0 _ rfl; (with_reducible repeat (first | refine bDN ?_ _ | refine bDr ?_ | refine bAl ?_ _)); exact BK131.out) Try.underlying71 rfl (by kernel_rfl)) rfl ?_
      exact ⟨by first | rfl | (simp [errW_none, errW_some] <;> rfl) | (simp [*, errW_none, errW_some] <;> rfl), by repeat (first | (with_reducible first | exact HB.out | apply beA | apply bpN | apply bd1 | refine beS ?_ GE129.out | refine beS ?_ GE130.out | refine beS ?_ GE131.out) | exact HB.out)⟩
     ·rw [if_neg c26] at H
      have c26b0 : decide ((wrap64 (4611686018427387904 - a0_0)) < a1_0) = false := decide_eq_false c26
      clear c26
      by_cases c33 : a0_0 < 0
      ·rw [if_pos c33] at H
       have c33b0 : decide (a0_0 < 0) = true := decide_eq_true c33
       clear c33
       by_cases c34 : a1_0 < (wrap64 ((-4611686018427387904) - a0_0))
       ·rw [if_pos c34] at H
        have c34b0 : decide (a1_0 < (wrap64 ((-4611686018427387904) - a0_0))) = true := decide_eq_true c34
        clear c34
        simp only [Option.some.injEq, Prod.mk.injEq] at H
        obtain ⟨rfl, rfl, rfl, rfl⟩ := H
        have hnb35 := NB129_130.out
        have hnc35 := NB130_129.out
        have hnb36 := NB129_131.out
        have hnc36 := NB131_129.out
        have hcz37_0 : wc.cell? ⟨gb129, 0, none⟩ = some (.int .i64 a0_0) := (bCe BK129.out 0).trans rfl
        have hcz37_1 : wc.cell? ⟨gb129, 1, none⟩ = some (.int .i64 a0_1) := (bCe BK129.out 1).trans rfl
        have hcz37_2 : wc.cell? ⟨gb129, 2, none⟩ = some (.int .i64 a0_2) := (bCe BK129.out 2).trans rfl
        have hfz37_0 := bFz BK129.out 0
        have hfz37_1 := bFz BK129.out 1
        have hfz37_2 := bFz BK129.out 2
        have hnb38 := NB130_131.out
        have hnc38 := NB131_130.out
        have hcz39_0 : wc.cell? ⟨gb130, 0, none⟩ = some (.int .i64 a1_0) := (bCe BK130.out 0).trans rfl
        have hcz39_1 : wc.cell? ⟨gb130, 1, none⟩ = some (.int .i64 a1_1) := (bCe BK130.out 1).trans rfl
        have hcz39_2 : wc.cell? ⟨gb130, 2, none⟩ = some (.int .i64 a1_2) := (bCe BK130.out 2).trans rfl
        have hfz39_0 := bFz BK130.out 0
        have hfz39_1 := bFz BK130.out 1
        have hfz39_2 := bFz BK130.out 2
        have hcz40_0 : wc.cell? ⟨gb131, 0, none⟩ = some (.int .i64 0) := (bCe BK131.out 0).trans rfl
        have hcz40_1 : wc.cell? ⟨gb131, 1, none⟩ = some (.int .i64 0) := (bCe BK131.out 1).trans rfl
        have hcz40_2 : wc.cell? ⟨gb131, 2, none⟩ = some (.int .i64 0) := (bCe BK131.out 2).trans rfl
        have hfz40_0 := bFz BK131.out 0
        have hfz40_1 := bFz BK131.out 1
        have hfz40_2 := bFz BK131.out 2
        go_wp2
        refine bodyPost_ret (results_ct rfl _ _ gb131 71 #[.int .i64 0, .int .i64 0, .int .i64 0] (0, 0) _ rfl (by (with_reducible repeat (first | refine bDN ?_ _ | refine bDr ?_ | refine bAl ?_ _)); refine blk_put (cs := #[.int .i64 0, .int .i64 0, .int .i64 0]) ?_ 2 _ rfl; (with_reducible repeat (first | refine bDN ?_ _ | refine bDr ?_ | refine bAl ?_ _)); refine blk_put (cs := #[.int .i64 0, .int .i64 0, .int .i64 0]) ?_ 1 _ rfl; (with_reducible repeat (first | refine bDN ?_ _ | refine bDr ?_ | refine bAl ?_ _)); refine blk_put (cs := #[.int .i64 0, .int .i64 0, .int .i64 0]) ?_ 0 _ rfl; (with_reducible repeat (first | refine bDN ?_ _ | refine bDr ?_ | refine bAl ?_ _)); exact BK131.out) Try.underlying71 rfl (by kernel_rfl)) rfl ?_
        exact ⟨by first | rfl | (simp [errW_none, errW_some] <;> rfl) | (simp [*, errW_none, errW_some] <;> rfl), by repeat (first | (with_reducible first | exact HB.out | apply beA | apply bpN | apply bd1 | refine beS ?_ GE129.out | refine beS ?_ GE130.out | refine beS ?_ GE131.out) | exact HB.out)⟩
       ·rw [if_neg c34] at H
        have c34b0 : decide (a1_0 < (wrap64 ((-4611686018427387904) - a0_0))) = false := decide_eq_false c34
        clear c34
        obtain ⟨ji41, hji41⟩ : ∃ j_ : Int, (mn a0_1 a1_1) = j_ := ⟨_, rfl⟩
        replace H : (some (wrap64 (a0_0 + a1_0), ji41, mx a0_2 a1_2, 0)) = some (r1, r2, r3, r4) := by first | (rw [hji41] at H; exact H) | (simp only [hji41] at H ⊢; exact H)
        have hji41_ : (if a1_1 < a0_1 then a1_1 else a0_1) = ji41 := hji41
        obtain ⟨ji42, hji42⟩ : ∃ j_ : Int, (mx a0_2 a1_2) = j_ := ⟨_, rfl⟩
        replace H : (some (wrap64 (a0_0 + a1_0), ji41, ji42, 0)) = some (r1, r2, r3, r4) := by first | (rw [hji42] at H; exact H) | (simp only [hji42] at H ⊢; exact H)
        have hji42_ : (if a0_2 < a1_2 then a1_2 else a0_2) = ji42 := hji42
        simp only [Option.some.injEq, Prod.mk.injEq] at H
        obtain ⟨rfl, rfl, rfl, rfl⟩ := H
        have hnb43 := NB129_130.out
        have hnc43 := NB130_129.out
        have hnb44 := NB129_131.out
        have hnc44 := NB131_129.out
        have hcz45_0 : wc.cell? ⟨gb129, 0, none⟩ = some (.int .i64 a0_0) := (bCe BK129.out 0).trans rfl
        have hcz45_1 : wc.cell? ⟨gb129, 1, none⟩ = some (.int .i64 a0_1) := (bCe BK129.out 1).trans rfl
        have hcz45_2 : wc.cell? ⟨gb129, 2, none⟩ = some (.int .i64 a0_2) := (bCe BK129.out 2).trans rfl
        have hfz45_0 := bFz BK129.out 0
        have hfz45_1 := bFz BK129.out 1
        have hfz45_2 := bFz BK129.out 2
        have hnb46 := NB130_131.out
        have hnc46 := NB131_130.out
        have hcz47_0 : wc.cell? ⟨gb130, 0, none⟩ = some (.int .i64 a1_0) := (bCe BK130.out 0).trans rfl
        have hcz47_1 : wc.cell? ⟨gb130, 1, none⟩ = some (.int .i64 a1_1) := (bCe BK130.out 1).trans rfl
        have hcz47_2 : wc.cell? ⟨gb130, 2, none⟩ = some (.int .i64 a1_2) := (bCe BK130.out 2).trans rfl
        have hfz47_0 := bFz BK130.out 0
        have hfz47_1 := bFz BK130.out 1
        have hfz47_2 := bFz BK130.out 2
        have hcz48_0 : wc.cell? ⟨gb131, 0, none⟩ = some (.int .i64 0) := (bCe BK131.out 0).trans rfl
        have hcz48_1 : wc.cell? ⟨gb131, 1, none⟩ = some (.int .i64 0) := (bCe BK131.out 1).trans rfl
        have hcz48_2 : wc.cell? ⟨gb131, 2, none⟩ = some (.int .i64 0) := (bCe BK131.out 2).trans rfl
        have hfz48_0 := bFz BK131.out 0
        have hfz48_1 := bFz BK131.out 1
        have hfz48_2 := bFz BK131.out 2
        go_wp2
        refine bodyPost_ret (results_ct rfl _ _ gb131 71 #[.int .i64 (wrap64 (a0_0 + a1_0)), .int .i64 ji41, .int .i64 ji42] (0, 0) _ rfl (by (with_reducible repeat (first | refine bDN ?_ _ | refine bDr ?_ | refine bAl ?_ _)); refine blk_put (cs := #[.int .i64 (wrap64 (a0_0 + a1_0)), .int .i64 ji41, .int .i64 0]) ?_ 2 _ rfl; (with_reducible repeat (first | refine bDN ?_ _ | refine bDr ?_ | refine bAl ?_ _)); refine blk_put (cs := #[.int .i64 (wrap64 (a0_0 + a1_0)), .int .i64 0, .int .i64 0]) ?_ 1 _ rfl; (with_reducible repeat (first | refine bDN ?_ _ | refine bDr ?_ | refine bAl ?_ _)); refine blk_put (cs := #[.int .i64 0, .int .i64 0, .int .i64 0]) ?_ 0 _ rfl; (with_reducible repeat (first | refine bDN ?_ _ | refine bDr ?_ | refine bAl ?_ _)); exact BK131.out) Try.underlying71 rfl (by kernel_rfl)) rfl ?_
        exact ⟨by first | rfl | (simp [errW_none, errW_some] <;> rfl) | (simp only [← hji41, ← hji42]; first | rfl | (simp [errW_none, errW_some] <;> rfl)) | (simp [*, errW_none, errW_some] <;> rfl), by repeat (first | (with_reducible first | exact HB.out | apply beA | apply bpN | apply bd1 | refine beS ?_ GE129.out | refine beS ?_ GE130.out | refine beS ?_ GE131.out) | exact HB.out)⟩
      ·rw [if_neg c33] at H
       have c33b0 : decide (a0_0 < 0) = false := decide_eq_false c33
       clear c33
       obtain ⟨ji49, hji49⟩ : ∃ j_ : Int, (mn a0_1 a1_1) = j_ := ⟨_, rfl⟩
       replace H : (some (wrap64 (a0_0 + a1_0), ji49, mx a0_2 a1_2, 0)) = some (r1, r2, r3, r4) := by first | (rw [hji49] at H; exact H) | (simp only [hji49] at H ⊢; exact H)
       have hji49_ : (if a1_1 < a0_1 then a1_1 else a0_1) = ji49 := hji49
       obtain ⟨ji50, hji50⟩ : ∃ j_ : Int, (mx a0_2 a1_2) = j_ := ⟨_, rfl⟩
       replace H : (some (wrap64 (a0_0 + a1_0), ji49, ji50, 0)) = some (r1, r2, r3, r4) := by first | (rw [hji50] at H; exact H) | (simp only [hji50] at H ⊢; exact H)
       have hji50_ : (if a0_2 < a1_2 then a1_2 else a0_2) = ji50 := hji50
       simp only [Option.some.injEq, Prod.mk.injEq] at H
       obtain ⟨rfl, rfl, rfl, rfl⟩ := H
       have hnb51 := NB129_130.out
       have hnc51 := NB130_129.out
       have hnb52 := NB129_131.out
       have hnc52 := NB131_129.out
       have hcz53_0 : wc.cell? ⟨gb129, 0, none⟩ = some (.int .i64 a0_0) := (bCe BK129.out 0).trans rfl
       have hcz53_1 : wc.cell? ⟨gb129, 1, none⟩ = some (.int .i64 a0_1) := (bCe BK129.out 1).trans rfl
       have hcz53_2 : wc.cell? ⟨gb129, 2, none⟩ = some (.int .i64 a0_2) := (bCe BK129.out 2).trans rfl
       have hfz53_0 := bFz BK129.out 0
       have hfz53_1 := bFz BK129.out 1
       have hfz53_2 := bFz BK129.out 2
       have hnb54 := NB130_131.out
       have hnc54 := NB131_130.out
       have hcz55_0 : wc.cell? ⟨gb130, 0, none⟩ = some (.int .i64 a1_0) := (bCe BK130.out 0).trans rfl
       have hcz55_1 : wc.cell? ⟨gb130, 1, none⟩ = some (.int .i64 a1_1) := (bCe BK130.out 1).trans rfl
       have hcz55_2 : wc.cell? ⟨gb130, 2, none⟩ = some (.int .i64 a1_2) := (bCe BK130.out 2).trans rfl
       have hfz55_0 := bFz BK130.out 0
       have hfz55_1 := bFz BK130.out 1
       have hfz55_2 := bFz BK130.out 2
       have hcz56_0 : wc.cell? ⟨gb131, 0, none⟩ = some (.int .i64 0) := (bCe BK131.out 0).trans rfl
       have hcz56_1 : wc.cell? ⟨gb131, 1, none⟩ = some (.int .i64 0) := (bCe BK131.out 1).trans rfl
       have hcz56_2 : wc.cell? ⟨gb131, 2, none⟩ = some (.int .i64 0) := (bCe BK131.out 2).trans rfl
       have hfz56_0 := bFz BK131.out 0
       have hfz56_1 := bFz BK131.out 1
       have hfz56_2 := bFz BK131.out 2
       go_wp2
       refine bodyPost_ret (results_ct rfl _ _ gb131 71 #[.int .i64 (wrap64 (a0_0 + a1_0)), .int .i64 ji49, .int .i64 ji50] (0, 0) _ rfl (by (with_reducible repeat (first | refine bDN ?_ _ | refine bDr ?_ | refine bAl ?_ _)); refine blk_put (cs := #[.int .i64 (wrap64 (a0_0 + a1_0)), .int .i64 ji49, .int .i64 0]) ?_ 2 _ rfl; (with_reducible repeat (first | refine bDN ?_ _ | refine bDr ?_ | refine bAl ?_ _)); refine blk_put (cs := #[.int .i64 (wrap64 (a0_0 + a1_0)), .int .i64 0, .int .i64 0]) ?_ 1 _ rfl; (with_reducible repeat (first | refine bDN ?_ _ | refine bDr ?_ | refine bAl ?_ _)); refine blk_put (cs := #[.int .i64 0, .int .i64 0, .int .i64 0]) ?_ 0 _ rfl; (with_reducible repeat (first | refine bDN ?_ _ | refine bDr ?_ | refine bAl ?_ _)); exact BK131.out) Try.underlying71 rfl (by kernel_rfl)) rfl ?_
       exact ⟨by first | rfl | (simp [errW_none, errW_some] <;> rfl) | (simp only [← hji49, ← hji50]; first | rfl | (simp [errW_none, errW_some] <;> rfl)) | (simp [*, errW_none, errW_some] <;> rfl), by repeat (first | (with_reducible first | exact HB.out | apply beA | apply bpN | apply bd1 | refine beS ?_ GE129.out | refine beS ?_ GE130.out | refine beS ?_ GE131.out) | exact HB.out)⟩
    ·rw [if_neg c25] at H
     have c25b0 : decide (0 < a0_0) = false := decide_eq_false c25
     clear c25
     by_cases c57 : a0_0 < 0
     ·rw [if_pos c57] at H
      have c57b0 : decide (a0_0 < 0) = true := decide_eq_true c57
      clear c57
      by_cases c58 : a1_0 < (wrap64 ((-4611686018427387904) - a0_0))
      ·rw [if_pos c58] at H
       have c58b0 : decide (a1_0 < (wrap64 ((-4611686018427387904) - a0_0))) = true := decide_eq_true c58
       clear c58
       simp only [Option.some.injEq, Prod.mk.injEq] at H
       obtain ⟨rfl, rfl, rfl, rfl⟩ := H
       have hnb59 := NB129_130.out
       have hnc59 := NB130_129.out
       have hnb60 := NB129_131.out
       have hnc60 := NB131_129.out
       have hcz61_0 : wc.cell? ⟨gb129, 0, none⟩ = some (.int .i64 a0_0) := (bCe BK129.out 0).trans rfl
       have hcz61_1 : wc.cell? ⟨gb129, 1, none⟩ = some (.int .i64 a0_1) := (bCe BK129.out 1).trans rfl
       have hcz61_2 : wc.cell? ⟨gb129, 2, none⟩ = some (.int .i64 a0_2) := (bCe BK129.out 2).trans rfl
       have hfz61_0 := bFz BK129.out 0
       have hfz61_1 := bFz BK129.out 1
       have hfz61_2 := bFz BK129.out 2
       have hnb62 := NB130_131.out
       have hnc62 := NB131_130.out
       have hcz63_0 : wc.cell? ⟨gb130, 0, none⟩ = some (.int .i64 a1_0) := (bCe BK130.out 0).trans rfl
       have hcz63_1 : wc.cell? ⟨gb130, 1, none⟩ = some (.int .i64 a1_1) := (bCe BK130.out 1).trans rfl
       have hcz63_2 : wc.cell? ⟨gb130, 2, none⟩ = some (.int .i64 a1_2) := (bCe BK130.out 2).trans rfl
       have hfz63_0 := bFz BK130.out 0
       have hfz63_1 := bFz BK130.out 1
       have hfz63_2 := bFz BK130.out 2
       have hcz64_0 : wc.cell? ⟨gb131, 0, none⟩ = some (.int .i64 0) := (bCe BK131.out 0).trans rfl
       have hcz64_1 : wc.cell? ⟨gb131, 1, none⟩ = some (.int .i64 0) := (bCe BK131.out 1).trans rfl
       have hcz64_2 : wc.cell? ⟨gb131, 2, none⟩ = some (.int .i64 0) := (bCe BK131.out 2).trans rfl
       have hfz64_0 := bFz BK131.out 0
       have hfz64_1 := bFz BK131.out 1
       have hfz64_2 := bFz BK131.out 2
       go_wp2
       refine bodyPost_ret (results_ct rfl _ _ gb131 71 #[.int .i64 0, .int .i64 0, .int .i64 0] (0, 0) _ rfl (by (with_reducible repeat (first | refine bDN ?_ _ | refine bDr ?_ | refine bAl ?_ _)); refine blk_put (cs := #[.int .i64 0, .int .i64 0, .int .i64 0]) ?_ 2 _ rfl; (with_reducible repeat (first | refine bDN ?_ _ | refine bDr ?_ | refine bAl ?_ _)); refine blk_put (cs := #[.int .i64 0, .int .i64 0, .int .i64 0]) ?_ 1 _ rfl; (with_reducible repeat (first | refine bDN ?_ _ | refine bDr ?_ | refine bAl ?_ _)); refine blk_put (cs := #[.int .i64 0, .int .i64 0, .int .i64 0]) ?_ 0 _ rfl; (with_reducible repeat (first | refine bDN ?_ _ | refine bDr ?_ | refine bAl ?_ _)); exact BK131.out) Try.underlying71 rfl (by kernel_rfl)) rfl ?_
       exact ⟨by first | rfl | (simp [errW_none, errW_some] <;> rfl) | (simp [*, errW_none, errW_some] <;> rfl), by repeat (first | (with_reducible first | exact HB.out | apply beA | apply bpN | apply bd1 | refine beS ?_ GE129.out | refine beS ?_ GE130.out | refine beS ?_ GE131.out) | exact HB.out)⟩
      ·rw [if_neg c58] at H
       have c58b0 : decide (a1_0 < (wrap64 ((-4611686018427387904) - a0_0))) = false := decide_eq_false c58
       clear c58
       obtain ⟨ji65, hji65⟩ : ∃ j_ : Int, (mn a0_1 a1_1) = j_ := ⟨_, rfl⟩
       replace H : (some (wrap64 (a0_0 + a1_0), ji65, mx a0_2 a1_2, 0)) = some (r1, r2, r3, r4) := by first | (rw [hji65] at H; exact H) | (simp only [hji65] at H ⊢; exact H)
       have hji65_ : (if a1_1 < a0_1 then a1_1 else a0_1) = ji65 := hji65
       obtain ⟨ji66, hji66⟩ : ∃ j_ : Int, (mx a0_2 a1_2) = j_ := ⟨_, rfl⟩
       replace H : (some (wrap64 (a0_0 + a1_0), ji65, ji66, 0)) = some (r1, r2, r3, r4) := by first | (rw [hji66] at H; exact H) | (simp only [hji66] at H ⊢; exact H)
       have hji66_ : (if a0_2 < a1_2 then a1_2 else a0_2) = ji66 := hji66
       simp only [Option.some.injEq, Prod.mk.injEq] at H
       obtain ⟨rfl, rfl, rfl, rfl⟩ := H
       have hnb67 := NB129_130.out
       have hnc67 := NB130_129.out
       have hnb68 := NB129_131.out
       have hnc68 := NB131_129.out
       have hcz69_0 : wc.cell? ⟨gb129, 0, none⟩ = some (.int .i64 a0_0) := (bCe BK129.out 0).trans rfl
       have hcz69_1 : wc.cell? ⟨gb129, 1, none⟩ = some (.int .i64 a0_1) := (bCe BK129.out 1).trans rfl
       have hcz69_2 : wc.cell? ⟨gb129, 2, none⟩ = some (.int .i64 a0_2) := (bCe BK129.out 2).trans rfl
       have hfz69_0 := bFz BK129.out 0
       have hfz69_1 := bFz BK129.out 1
       have hfz69_2 := bFz BK129.out 2
       have hnb70 := NB130_131.out
       have hnc70 := NB131_130.out
       have hcz71_0 : wc.cell? ⟨gb130, 0, none⟩ = some (.int .i64 a1_0) := (bCe BK130.out 0).trans rfl
       have hcz71_1 : wc.cell? ⟨gb130, 1, none⟩ = some (.int .i64 a1_1) := (bCe BK130.out 1).trans rfl
       have hcz71_2 : wc.cell? ⟨gb130, 2, none⟩ = some (.int .i64 a1_2) := (bCe BK130.out 2).trans rfl
       have hfz71_0 := bFz BK130.out 0
       have hfz71_1 := bFz BK130.out 1
       have hfz71_2 := bFz BK130.out 2
       have hcz72_0 : wc.cell? ⟨gb131, 0, none⟩ = some (.int .i64 0) := (bCe BK131.out 0).trans rfl
       have hcz72_1 : wc.cell? ⟨gb131, 1, none⟩ = some (.int .i64 0) := (bCe BK131.out 1).trans rfl
       have hcz72_2 : wc.cell? ⟨gb131, 2, none⟩ = some (.int .i64 0) := (bCe BK131.out 2).trans rfl
       have hfz72_0 := bFz BK131.out 0
       have hfz72_1 := bFz BK131.out 1
       have hfz72_2 := bFz BK131.out 2
       go_wp2
       refine bodyPost_ret (results_ct rfl _ _ gb131 71 #[.int .i64 (wrap64 (a0_0 + a1_0)), .int .i64 ji65, .int .i64 ji66] (0, 0) _ rfl (by (with_reducible repeat (first | refine bDN ?_ _ | refine bDr ?_ | refine bAl ?_ _)); refine blk_put (cs := #[.int .i64 (wrap64 (a0_0 + a1_0)), .int .i64 ji65, .int .i64 0]) ?_ 2 _ rfl; (with_reducible repeat (first | refine bDN ?_ _ | refine bDr ?_ | refine bAl ?_ _)); refine blk_put (cs := #[.int .i64 (wrap64 (a0_0 + a1_0)), .int .i64 0, .int .i64 0]) ?_ 1 _ rfl; (with_reducible repeat (first | refine bDN ?_ _ | refine bDr ?_ | refine bAl ?_ _)); refine blk_put (cs := #[.int .i64 0, .int .i64 0, .int .i64 0]) ?_ 0 _ rfl; (with_reducible repeat (first | refine bDN ?_ _ | refine bDr ?_ | refine bAl ?_ _)); exact BK131.out) Try.underlying71 rfl (by kernel_rfl)) rfl ?_
       exact ⟨by first | rfl | (simp [errW_none, errW_some] <;> rfl) | (simp only [← hji65, ← hji66]; first | rfl | (simp [errW_none, errW_some] <;> rfl)) | (simp [*, errW_none, errW_some] <;> rfl), by repeat (first | (with_reducible first | exact HB.out | apply beA | apply bpN | apply bd1 | refine beS ?_ GE129.out | refine beS ?_ GE130.out | refine beS ?_ GE131.out) | exact HB.out)⟩
     ·rw [if_neg c57] at H
      have c57b0 : decide (a0_0 < 0) = false := decide_eq_false c57
      clear c57
      obtain ⟨ji73, hji73⟩ : ∃ j_ : Int, (mn a0_1 a1_1) = j_ := ⟨_, rfl⟩
      replace H : (some (wrap64 (a0_0 + a1_0), ji73, mx a0_2 a1_2, 0)) = some (r1, r2, r3, r4) := by first | (rw [hji73] at H; exact H) | (simp only [hji73] at H ⊢; exact H)
      have hji73_ : (if a1_1 < a0_1 then a1_1 else a0_1) = ji73 := hji73
      obtain ⟨ji74, hji74⟩ : ∃ j_ : Int, (mx a0_2 a1_2) = j_ := ⟨_, rfl⟩
      replace H : (some (wrap64 (a0_0 + a1_0), ji73, ji74, 0)) = some (r1, r2, r3, r4) := by first | (rw [hji74] at H; exact H) | (simp only [hji74] at H ⊢; exact H)
      have hji74_ : (if a0_2 < a1_2 then a1_2 else a0_2) = ji74 := hji74
      simp only [Option.some.injEq, Prod.mk.injEq] at H
      obtain ⟨rfl, rfl, rfl, rfl⟩ := H
      have hnb75 := NB129_130.out
      have hnc75 := NB130_129.out
      have hnb76 := NB129_131.out
      have hnc76 := NB131_129.out
      have hcz77_0 : wc.cell? ⟨gb129, 0, none⟩ = some (.int .i64 a0_0) := (bCe BK129.out 0).trans rfl
      have hcz77_1 : wc.cell? ⟨gb129, 1, none⟩ = some (.int .i64 a0_1) := (bCe BK129.out 1).trans rfl
      have hcz77_2 : wc.cell? ⟨gb129, 2, none⟩ = some (.int .i64 a0_2) := (bCe BK129.out 2).trans rfl
      have hfz77_0 := bFz BK129.out 0
      have hfz77_1 := bFz BK129.out 1
      have hfz77_2 := bFz BK129.out 2
      have hnb78 := NB130_131.out
      have hnc78 := NB131_130.out
      have hcz79_0 : wc.cell? ⟨gb130, 0, none⟩ = some (.int .i64 a1_0) := (bCe BK130.out 0).trans rfl
      have hcz79_1 : wc.cell? ⟨gb130, 1, none⟩ = some (.int .i64 a1_1) := (bCe BK130.out 1).trans rfl
      have hcz79_2 : wc.cell? ⟨gb130, 2, none⟩ = some (.int .i64 a1_2) := (bCe BK130.out 2).trans rfl
      have hfz79_0 := bFz BK130.out 0
      have hfz79_1 := bFz BK130.out 1
      have hfz79_2 := bFz BK130.out 2
      have hcz80_0 : wc.cell? ⟨gb131, 0, none⟩ = some (.int .i64 0) := (bCe BK131.out 0).trans rfl
      have hcz80_1 : wc.cell? ⟨gb131, 1, none⟩ = some (.int .i64 0) := (bCe BK131.out 1).trans rfl
      have hcz80_2 : wc.cell? ⟨gb131, 2, none⟩ = some (.int .i64 0) := (bCe BK131.out 2).trans rfl
      have hfz80_0 := bFz BK131.out 0
      have hfz80_1 := bFz BK131.out 1
      have hfz80_2 := bFz BK131.out 2
      go_wp2
      refine bodyPost_ret (results_ct rfl _ _ gb131 71 #[.int .i64 (wrap64 (a0_0 + a1_0)), .int .i64 ji73, .int .i64 ji74] (0, 0) _ rfl (by (with_reducible repeat (first | refine bDN ?_ _ | refine bDr ?_ | refine bAl ?_ _)); refine blk_put (cs := #[.int .i64 (wrap64 (a0_0 + a1_0)), .int .i64 ji73, .int .i64 0]) ?_ 2 _ rfl; (with_reducible repeat (first | refine bDN ?_ _ | refine bDr ?_ | refine bAl ?_ _)); refine blk_put (cs := #[.int .i64 (wrap64 (a0_0 + a1_0)), .int .i64 0, .int .i64 0]) ?_ 1 _ rfl; (with_reducible repeat (first | refine bDN ?_ _ | refine bDr ?_ | refine bAl ?_ _)); refine blk_put (cs := #[.int .i64 0, .int .i64 0, .int .i64 0]) ?_ 0 _ rfl; (with_reducible repeat (first | refine bDN ?_ _ | refine bDr ?_ | refine bAl ?_ _)); exact BK131.out) Try.underlying71 rfl (by kernel_rfl)) rfl ?_
      exact ⟨by first | rfl | (simp [errW_none, errW_some] <;> rfl) | (simp only [← hji73, ← hji74]; first | rfl | (simp [errW_none, errW_some] <;> rfl)) | (simp [*, errW_none, errW_some] <;> rfl), by repeat (first | (with_reducible first | exact HB.out | apply beA | apply bpN | apply bd1 | refine beS ?_ GE129.out | refine beS ?_ GE130.out | refine beS ?_ GE131.out) | exact HB.out)⟩
end Go.Proofs.Ytdeeffahfkndkaa.P
namespace Go.Proofs.Ytdeeffahfkndkaa.P
open Go.RowKit Go.Proofs.YtdeeffahfkndkaaW.PrintWords Go.Proofs.YtdeeffahfkndkaaW.PrintLast Go.Proofs.YtdeeffahfkndkaaW.PrintMore
attribute [local go_sem] max2_int min2_int max_two min_two max_three min_three max_four min_four
set_option linter.unusedVariables false
set_option linter.unusedSimpArgs false
def columbarylaw10_Fits.l0 : Nat → List ByteArray → Int → Option (Bool)
 | 0, _, _ => none
 | k + 1, x0, x3 => if x3 < (x0.length : Int) then (if x3 = 20 then (some false) else (if 0 ≤ x3 then (if ((rdOf ByteArray.empty x0 x3).size : Int) > 80 then (some false) else (columbarylaw10_Fits.l0 k x0 (wrap64 (x3 + 1)))) else (none))) else (some true)
def columbarylaw10_Fits.f (k : Nat) (l0 : List ByteArray) : Option (Bool) := columbarylaw10_Fits.l0 k l0 0
set_option maxHeartbeats 8000000 in
set_option maxRecDepth 100000 in
theorem columbarylaw10_Fits.calls (k : Nat) (A0 : Option Addr) (c0 : Nat) (l0 : List ByteArray) (r : Bool) (w : World) (hr0 : Kd.C Kd.string w A0 l0.length l0) (hc0 : l0.length ≤ c0) (h : columbarylaw10_Fits.f k l0 = some r) :
  Calls Try.prog 33 #[.slice A0 l0.length c0] w fun e w' => e = .returned (.bool r) ∧ Drawn0 w w' := by
 have HR0 := Z0.mk hr0
 have HC0 := Z0.mk hc0
 clear hr0 hc0
 have H : (columbarylaw10_Fits.l0 k l0 0) = some r := h
 clear h
 have H' := Z0.mk H
 clear H
 go_enter Try.func33, Try.ntmps33
 go_wp2
 go_loopg [3] k (fun kq v3 w' => ∃ (x3_1 : Int), v3 = .int .i64 x3_1 ∧ Z0 (columbarylaw10_Fits.l0 kq l0 x3_1 = some r) ∧ Z0 (kq ≤ k) ∧ Drawn0 w w')
 case atStart => exact ⟨(0), (by first | rfl | (simp; done) | (simp [*]; done)), H', ⟨Nat.le_refl _⟩, by repeat (first | exact Drawn0.refl _ | apply Drawn0.step)⟩
 case round =>
  clear H'
  obtain ⟨x3_1, rfl, HA, HK1, ⟨m1, rfl⟩⟩ := hrel
  cases gk with
  | zero => exact absurd HA.out (by simp [columbarylaw10_Fits.l0])
  | succ k1 =>
   have H := HA.out
   clear HA
   simp only [columbarylaw10_Fits.l0] at H
   by_cases c2 : x3_1 < (l0.length : Int)
   ·rw [if_pos c2] at H
    have c2b0 : decide (x3_1 < (l0.length : Int)) = true := decide_eq_true c2
    clear c2
    by_cases c3 : x3_1 = 20
    ·rw [if_pos c3] at H
     have c3b0 : (x3_1 == 20) = true := beq_iff_eq.mpr c3
     have c3b1 : (x3_1 != 20) = false := bne_eq_false_iff_eq.mpr c3
     clear c3
     obtain rfl := Option.some.inj H
     go_wp2
     go_ret
     exact ⟨by first | rfl | (simp; done) | (simp [*]; done), by repeat (first | exact Drawn0.refl _ | apply Drawn0.step)⟩
    ·rw [if_neg c3] at H
     have c3b0 : (x3_1 == 20) = false := beq_eq_false_iff_ne.mpr c3
     have c3b1 : (x3_1 != 20) = true := bne_iff_ne.mpr c3
     by_cases c4 : 0 ≤ x3_1
     ·rw [if_pos c4] at H
      have c4b0 : decide (0 ≤ x3_1) = true := decide_eq_true c4
      clear c4
      by_cases c5 : ((rdOf ByteArray.empty l0 x3_1).size : Int) > 80
      ·rw [if_pos c5] at H
       have c5b0 : decide (80 < ((rdOf ByteArray.empty l0 x3_1).size : Int)) = true := decide_eq_true c5
       have c5b1 : decide (80 < (rdOf ByteArray.empty l0 x3_1).size) = true := decide_eq_true (by omega)
       clear c5
       obtain rfl := Option.some.inj H
       have p156 : 0 ≤ (x3_1 : Int) := of_decide_eq_true (by first | (with_reducible assumption) | assumption)
       have q156 : x3_1 < (l0.length : Int) := of_decide_eq_true (by first | (with_reducible assumption) | assumption)
       obtain ⟨ad156, e156, hx156_0⟩ := Kd.at_string HR0.out x3_1 p156 q156
       cases e156
       replace p156 := eq_true p156
       replace q156 := eq_true q156
       go_wp2
       go_ret
       exact ⟨by first | rfl | (simp; done) | (simp [*]; done), by repeat (first | exact Drawn0.refl _ | apply Drawn0.step)⟩
      ·rw [if_neg c5] at H
       have c5b0 : decide (80 < ((rdOf ByteArray.empty l0 x3_1).size : Int)) = false := decide_eq_false c5
       have c5b1 : decide (80 < (rdOf ByteArray.empty l0 x3_1).size) = false := decide_eq_false (by omega)
       clear c5
       have H' := Z0.mk H
       clear H
       have p156 : 0 ≤ (x3_1 : Int) := of_decide_eq_true (by first | (with_reducible assumption) | assumption)
       have q156 : x3_1 < (l0.length : Int) := of_decide_eq_true (by first | (with_reducible assumption) | assumption)
       obtain ⟨ad156, e156, hx156_0⟩ := Kd.at_string HR0.out x3_1 p156 q156
       cases e156
       replace p156 := eq_true p156
       replace q156 := eq_true q156
       go_wp2
       go_roundg k1
       case measure => have := HK1.out; omega
       case rel => exact ⟨(wrap64 (x3_1 + 1)), (by first | rfl | (simp; done) | (simp [*]; done)), H', ⟨by have := HK1.out; omega⟩, by repeat (first | exact Drawn0.refl _ | apply Drawn0.step)⟩
     ·rw [if_neg c4] at H
      exact absurd H (by simp)
   ·rw [if_neg c2] at H
    have c2b0 : decide (x3_1 < (l0.length : Int)) = false := decide_eq_false c2
    clear c2
    obtain rfl := Option.some.inj H
    go_wp2
    go_ret
    exact ⟨by first | rfl | (simp; done) | (simp [*]; done), by repeat (first | exact Drawn0.refl _ | apply Drawn0.step)⟩
end Go.Proofs.Ytdeeffahfkndkaa.P
namespace Go.Proofs.Ytdeeffahfkndkaa.P
open Go.RowKit Go.Proofs.YtdeeffahfkndkaaW.PrintWords Go.Proofs.YtdeeffahfkndkaaW.PrintLast Go.Proofs.YtdeeffahfkndkaaW.PrintMore
attribute [local go_sem] max2_int min2_int max_two min_two max_three min_three max_four min_four
set_option linter.unusedVariables false
set_option linter.unusedSimpArgs false
def columbaryref10_words.f  : Option (List ByteArray) := some (([(⟨#[99, 111, 117, 110, 116]⟩ : ByteArray), (⟨#[115, 117, 109]⟩ : ByteArray), (⟨#[109, 105, 110]⟩ : ByteArray), (⟨#[109, 97, 120]⟩ : ByteArray), (⟨#[102, 114, 111, 109]⟩ : ByteArray), (⟨#[116, 111]⟩ : ByteArray), (⟨#[98, 121]⟩ : ByteArray), (⟨#[101, 118, 101, 114, 121]⟩ : ByteArray), (⟨#[119, 104, 101, 114, 101]⟩ : ByteArray), (⟨#[104, 97, 118, 105, 110, 103]⟩ : ByteArray), (⟨#[111, 114, 100, 101, 114]⟩ : ByteArray), (⟨#[108, 105, 109, 105, 116]⟩ : ByteArray), (⟨#[97, 110, 100]⟩ : ByteArray), (⟨#[111, 114]⟩ : ByteArray), (⟨#[110, 111, 116]⟩ : ByteArray), (⟨#[105, 115]⟩ : ByteArray), (⟨#[110, 117, 108, 108]⟩ : ByteArray), (⟨#[97, 115, 99]⟩ : ByteArray), (⟨#[100, 101, 115, 99]⟩ : ByteArray), (⟨#[115, 101, 108, 101, 99, 116]⟩ : ByteArray)] : List ByteArray))
set_option maxHeartbeats 8000000 in
set_option maxRecDepth 100000 in
theorem columbaryref10_words.calls  (r : List ByteArray) (w : World) (h : columbaryref10_words.f  = some r) :
  Calls Try.prog 72 #[] w fun e w' => ∃ v0_ : Value, e = .returned (v0_) ∧ Kd.R Kd.string 9 w' w.heap.size (fun _ => True) v0_ r ∧ Below w.heap.size w w' := by
 have HB := Z0.mk (Below.refl w.heap.size w)
 have H : (some (([(⟨#[99, 111, 117, 110, 116]⟩ : ByteArray), (⟨#[115, 117, 109]⟩ : ByteArray), (⟨#[109, 105, 110]⟩ : ByteArray), (⟨#[109, 97, 120]⟩ : ByteArray), (⟨#[102, 114, 111, 109]⟩ : ByteArray), (⟨#[116, 111]⟩ : ByteArray), (⟨#[98, 121]⟩ : ByteArray), (⟨#[101, 118, 101, 114, 121]⟩ : ByteArray), (⟨#[119, 104, 101, 114, 101]⟩ : ByteArray), (⟨#[104, 97, 118, 105, 110, 103]⟩ : ByteArray), (⟨#[111, 114, 100, 101, 114]⟩ : ByteArray), (⟨#[108, 105, 109, 105, 116]⟩ : ByteArray), (⟨#[97, 110, 100]⟩ : ByteArray), (⟨#[111, 114]⟩ : ByteArray), (⟨#[110, 111, 116]⟩ : ByteArray), (⟨#[105, 115]⟩ : ByteArray), (⟨#[110, 117, 108, 108]⟩ : ByteArray), (⟨#[97, 115, 99]⟩ : ByteArray), (⟨#[100, 101, 115, 99]⟩ : ByteArray), (⟨#[115, 101, 108, 101, 99, 116]⟩ : ByteArray)] : List ByteArray))) = some r := h
 clear h
 obtain ⟨y157, hy157⟩ : ∃ y_ : List ByteArray, y_ = (([(⟨#[99, 111, 117, 110, 116]⟩ : ByteArray), (⟨#[115, 117, 109]⟩ : ByteArray), (⟨#[109, 105, 110]⟩ : ByteArray), (⟨#[109, 97, 120]⟩ : ByteArray), (⟨#[102, 114, 111, 109]⟩ : ByteArray), (⟨#[116, 111]⟩ : ByteArray), (⟨#[98, 121]⟩ : ByteArray), (⟨#[101, 118, 101, 114, 121]⟩ : ByteArray), (⟨#[119, 104, 101, 114, 101]⟩ : ByteArray), (⟨#[104, 97, 118, 105, 110, 103]⟩ : ByteArray), (⟨#[111, 114, 100, 101, 114]⟩ : ByteArray), (⟨#[108, 105, 109, 105, 116]⟩ : ByteArray), (⟨#[97, 110, 100]⟩ : ByteArray), (⟨#[111, 114]⟩ : ByteArray), (⟨#[110, 111, 116]⟩ : ByteArray), (⟨#[105, 115]⟩ : ByteArray), (⟨#[110, 117, 108, 108]⟩ : ByteArray), (⟨#[97, 115, 99]⟩ : ByteArray), (⟨#[100, 101, 115, 99]⟩ : ByteArray), (⟨#[115, 101, 108, 101, 99, 116]⟩ : ByteArray)] : List ByteArray)) := ⟨_, rfl⟩
 replace H : (some y157) = some r := by first | (rw [hy157]; with_reducible exact H) | (have H2_ := (Option.bind_some _ _).symm.trans H; rw [hy157]; with_reducible exact H2_) | (have H2_ := (Option.bind_some _ _).symm.trans H; with_reducible exact H2_) | with_reducible exact H | (rw [hy157]; exact H) | exact H
 have Ny157 := Z0.mk hy157
 clear hy157
 obtain rfl := Option.some.inj H
 go_enter Try.func72, Try.ntmps72
 go_wp2_with (first | ((with_reducible refine gate_dst (N := 1) rfl ?_); refine Kd.R_lit Kd.string _ 9 ?hg (N := 1) ?hd (xs := ([(⟨#[99, 111, 117, 110, 116]⟩ : ByteArray), (⟨#[115, 117, 109]⟩ : ByteArray), (⟨#[109, 105, 110]⟩ : ByteArray), (⟨#[109, 97, 120]⟩ : ByteArray), (⟨#[102, 114, 111, 109]⟩ : ByteArray), (⟨#[116, 111]⟩ : ByteArray), (⟨#[98, 121]⟩ : ByteArray), (⟨#[101, 118, 101, 114, 121]⟩ : ByteArray), (⟨#[119, 104, 101, 114, 101]⟩ : ByteArray), (⟨#[104, 97, 118, 105, 110, 103]⟩ : ByteArray), (⟨#[111, 114, 100, 101, 114]⟩ : ByteArray), (⟨#[108, 105, 109, 105, 116]⟩ : ByteArray), (⟨#[97, 110, 100]⟩ : ByteArray), (⟨#[111, 114]⟩ : ByteArray), (⟨#[110, 111, 116]⟩ : ByteArray), (⟨#[105, 115]⟩ : ByteArray), (⟨#[110, 117, 108, 108]⟩ : ByteArray), (⟨#[97, 115, 99]⟩ : ByteArray), (⟨#[100, 101, 115, 99]⟩ : ByteArray), (⟨#[115, 101, 108, 101, 99, 116]⟩ : ByteArray)] : List ByteArray)) (inner := [.string (⟨#[99, 111, 117, 110, 116]⟩ : ByteArray), .string (⟨#[115, 117, 109]⟩ : ByteArray), .string (⟨#[109, 105, 110]⟩ : ByteArray), .string (⟨#[109, 97, 120]⟩ : ByteArray), .string (⟨#[102, 114, 111, 109]⟩ : ByteArray), .string (⟨#[116, 111]⟩ : ByteArray), .string (⟨#[98, 121]⟩ : ByteArray), .string (⟨#[101, 118, 101, 114, 121]⟩ : ByteArray), .string (⟨#[119, 104, 101, 114, 101]⟩ : ByteArray), .string (⟨#[104, 97, 118, 105, 110, 103]⟩ : ByteArray), .string (⟨#[111, 114, 100, 101, 114]⟩ : ByteArray), .string (⟨#[108, 105, 109, 105, 116]⟩ : ByteArray), .string (⟨#[97, 110, 100]⟩ : ByteArray), .string (⟨#[111, 114]⟩ : ByteArray), .string (⟨#[110, 111, 116]⟩ : ByteArray), .string (⟨#[105, 115]⟩ : ByteArray), .string (⟨#[110, 117, 108, 108]⟩ : ByteArray), .string (⟨#[97, 115, 99]⟩ : ByteArray), .string (⟨#[100, 101, 115, 99]⟩ : ByteArray), .string (⟨#[115, 101, 108, 101, 99, 116]⟩ : ByteArray)]) (ok := fun _ => True) (okp := fun _ => True) ?hr ?hp (fun _ hk => hk) trivial (Below.refl _ _) (Nat.le_refl _) (by simp) ?_; (case hd => rfl); (case hg => rfl); (case hr => first | (go_simp; done) | (go_simp; rfl)); (case hp => exact (Reps.one (show Kd.M Kd.string _ _ _ (⟨#[99, 111, 117, 110, 116]⟩ : ByteArray) [.string (⟨#[99, 111, 117, 110, 116]⟩ : ByteArray)] from rfl) (Reps.one (show Kd.M Kd.string _ _ _ (⟨#[115, 117, 109]⟩ : ByteArray) [.string (⟨#[115, 117, 109]⟩ : ByteArray)] from rfl) (Reps.one (show Kd.M Kd.string _ _ _ (⟨#[109, 105, 110]⟩ : ByteArray) [.string (⟨#[109, 105, 110]⟩ : ByteArray)] from rfl) (Reps.one (show Kd.M Kd.string _ _ _ (⟨#[109, 97, 120]⟩ : ByteArray) [.string (⟨#[109, 97, 120]⟩ : ByteArray)] from rfl) (Reps.one (show Kd.M Kd.string _ _ _ (⟨#[102, 114, 111, 109]⟩ : ByteArray) [.string (⟨#[102, 114, 111, 109]⟩ : ByteArray)] from rfl) (Reps.one (show Kd.M Kd.string _ _ _ (⟨#[116, 111]⟩ : ByteArray) [.string (⟨#[116, 111]⟩ : ByteArray)] from rfl) (Reps.one (show Kd.M Kd.string _ _ _ (⟨#[98, 121]⟩ : ByteArray) [.string (⟨#[98, 121]⟩ : ByteArray)] from rfl) (Reps.one (show Kd.M Kd.string _ _ _ (⟨#[101, 118, 101, 114, 121]⟩ : ByteArray) [.string (⟨#[101, 118, 101, 114, 121]⟩ : ByteArray)] from rfl) (Reps.one (show Kd.M Kd.string _ _ _ (⟨#[119, 104, 101, 114, 101]⟩ : ByteArray) [.string (⟨#[119, 104, 101, 114, 101]⟩ : ByteArray)] from rfl) (Reps.one (show Kd.M Kd.string _ _ _ (⟨#[104, 97, 118, 105, 110, 103]⟩ : ByteArray) [.string (⟨#[104, 97, 118, 105, 110, 103]⟩ : ByteArray)] from rfl) (Reps.one (show Kd.M Kd.string _ _ _ (⟨#[111, 114, 100, 101, 114]⟩ : ByteArray) [.string (⟨#[111, 114, 100, 101, 114]⟩ : ByteArray)] from rfl) (Reps.one (show Kd.M Kd.string _ _ _ (⟨#[108, 105, 109, 105, 116]⟩ : ByteArray) [.string (⟨#[108, 105, 109, 105, 116]⟩ : ByteArray)] from rfl) (Reps.one (show Kd.M Kd.string _ _ _ (⟨#[97, 110, 100]⟩ : ByteArray) [.string (⟨#[97, 110, 100]⟩ : ByteArray)] from rfl) (Reps.one (show Kd.M Kd.string _ _ _ (⟨#[111, 114]⟩ : ByteArray) [.string (⟨#[111, 114]⟩ : ByteArray)] from rfl) (Reps.one (show Kd.M Kd.string _ _ _ (⟨#[110, 111, 116]⟩ : ByteArray) [.string (⟨#[110, 111, 116]⟩ : ByteArray)] from rfl) (Reps.one (show Kd.M Kd.string _ _ _ (⟨#[105, 115]⟩ : ByteArray) [.string (⟨#[105, 115]⟩ : ByteArray)] from rfl) (Reps.one (show Kd.M Kd.string _ _ _ (⟨#[110, 117, 108, 108]⟩ : ByteArray) [.string (⟨#[110, 117, 108, 108]⟩ : ByteArray)] from rfl) (Reps.one (show Kd.M Kd.string _ _ _ (⟨#[97, 115, 99]⟩ : ByteArray) [.string (⟨#[97, 115, 99]⟩ : ByteArray)] from rfl) (Reps.one (show Kd.M Kd.string _ _ _ (⟨#[100, 101, 115, 99]⟩ : ByteArray) [.string (⟨#[100, 101, 115, 99]⟩ : ByteArray)] from rfl) (Reps.one (show Kd.M Kd.string _ _ _ (⟨#[115, 101, 108, 101, 99, 116]⟩ : ByteArray) [.string (⟨#[115, 101, 108, 101, 99, 116]⟩ : ByteArray)] from rfl) (Reps.none _ _)))))))))))))))))))))); intro v158 w1 ho2 hb hg_ hnew_; clear hg_ hnew_; (first | rw [← Ny157.out] at ho2 | (simp only [Int.reduceToNat] at ho2; rw [← Ny157.out] at ho2)); have n0_ := Z0.mk (Kd.R_lower ho2 (below_size (by repeat (first | (with_reducible first | exact HB.out | apply beA | apply bpN | apply bd1) | exact HB.out)))); have n1_ := Z0.mk (below_step (by repeat (first | (with_reducible first | exact HB.out | apply beA | apply bpN | apply bd1) | exact HB.out)) hb); clear HB; have HO159 := n0_; have HB := n1_; clear n0_ n1_; clear hb ho2))
 go_ret
 exact ⟨_, by first | rfl | (simp [errW_none, errW_some] <;> rfl) | (simp [*, errW_none, errW_some] <;> rfl), by (with_reducible repeat (first | apply Kd.R_alloc | apply Kd.R_drewN | apply Kd.R_drew)); exact HO159.out, by repeat (first | (with_reducible first | exact HB.out | apply beA | apply bpN | apply bd1) | exact HB.out)⟩
end Go.Proofs.Ytdeeffahfkndkaa.P
namespace Go.Proofs.Ytdeeffahfkndkaa.P
open Go.RowKit Go.Proofs.YtdeeffahfkndkaaW.PrintWords Go.Proofs.YtdeeffahfkndkaaW.PrintLast Go.Proofs.YtdeeffahfkndkaaW.PrintMore
attribute [local go_sem] max2_int min2_int max_two min_two max_three min_three max_four min_four
set_option linter.unusedVariables false
set_option linter.unusedSimpArgs false
mutual
def columbaryref10_Name.l0 : Nat → ByteArray → List ByteArray → Int → Option (Bool)
 | 0, _, _, _ => none
 | k + 1, x0, x3, x4 => if x4 < (x3.length : Int) then (if 0 ≤ x4 then (if (rdOf ByteArray.empty x3 x4).toList = x0.toList then (some false) else (columbaryref10_Name.l0 k x0 x3 (wrap64 (x4 + 1)))) else (none)) else (columbaryref10_Name.l1 k x0 0)
def columbaryref10_Name.l1 : Nat → ByteArray → Int → Option (Bool)
 | 0, _, _ => none
 | k + 1, x0, x5 => if x5 < (x0.size : Int) then (if 0 ≤ x5 then (if (bt x0 x5) ≥ 97 then (if (bt x0 x5) ≥ 48 then (if (bt x0 x5) ≤ 57 then (if ((bt x0 x5) ≤ 122) then (columbaryref10_Name.l1 k x0 (wrap64 (x5 + 1))) else (if x5 = 0 then (some false) else (columbaryref10_Name.l1 k x0 (wrap64 (x5 + 1))))) else (if ((bt x0 x5) ≤ 122) then (columbaryref10_Name.l1 k x0 (wrap64 (x5 + 1))) else (if ((bt x0 x5) = 95) then (if x5 = 0 then (some false) else (columbaryref10_Name.l1 k x0 (wrap64 (x5 + 1)))) else (some false)))) else (if ((bt x0 x5) ≤ 122) then (columbaryref10_Name.l1 k x0 (wrap64 (x5 + 1))) else (if ((bt x0 x5) = 95) then (if x5 = 0 then (some false) else (columbaryref10_Name.l1 k x0 (wrap64 (x5 + 1)))) else (some false)))) else (if (bt x0 x5) ≥ 48 then (if (bt x0 x5) ≤ 57 then (if x5 = 0 then (some false) else (columbaryref10_Name.l1 k x0 (wrap64 (x5 + 1)))) else (if ((bt x0 x5) = 95) then (if x5 = 0 then (some false) else (columbaryref10_Name.l1 k x0 (wrap64 (x5 + 1)))) else (some false))) else (if ((bt x0 x5) = 95) then (if x5 = 0 then (some false) else (columbaryref10_Name.l1 k x0 (wrap64 (x5 + 1)))) else (some false)))) else (none)) else (if (x0.size : Int) ≥ 1 then (some (decide ((x0.size : Int) ≤ 12))) else (some false))
end
def columbaryref10_Name.f (k : Nat) (a0 : ByteArray) : Option (Bool) := (columbaryref10_words.f).bind fun t160 => (columbaryref10_Name.l0 k a0 t160 0)
set_option maxHeartbeats 8000000 in
set_option maxRecDepth 100000 in
theorem columbaryref10_Name.calls (k : Nat) (a0 : ByteArray) (r : Bool) (w : World) (h : columbaryref10_Name.f k a0 = some r) :
  Calls Try.prog 51 #[.string a0] w fun e w' => e = .returned (.bool r) ∧ Below w.heap.size w w' := by
 have HB := Z0.mk (Below.refl w.heap.size w)
 have H : ((columbaryref10_words.f).bind fun t160 => (columbaryref10_Name.l0 k a0 t160 0)) = some r := h
 clear h
 replace H := Option.bind_eq_some_iff.mp H
 obtain ⟨t160, A20, H⟩ := H
 replace H : (columbaryref10_Name.l0 k a0 t160 0) = some r := H
 have A2 := Z0.mk A20
 clear A20
 have H' := Z0.mk H
 clear H
 go_enter Try.func51, Try.ntmps51
 go_wp2_with (first | ((with_reducible refine gate_callee (f := 72) rfl ?_); refine goesL_ (some 8) rfl rfl Try.func72 (by kernel_rfl) rfl #[] rfl (by (try simp only [List.map_toArray, List.map_cons, List.map_nil]); first | done | rfl | (simp only [List.length_drop, List.length_take]; rfl)) ?_; (with_reducible refine (columbaryref10_words.calls  t160 _ A2.out).mono ?_); rintro e w3 ⟨v161, rfl, ho0, hb⟩; refine ⟨_, rfl, ?_⟩; have n0_ := Z0.mk (Kd.R_lower ho0 (below_size (by repeat (first | (with_reducible first | exact HB.out | apply beA | apply bpN | apply bd1) | exact HB.out)))); have n1_ := Z0.mk (below_step (by repeat (first | (with_reducible first | exact HB.out | apply beA | apply bpN | apply bd1) | exact HB.out)) hb); clear HB; have HO162 := n0_; have HB := n1_; clear n0_ n1_; (try clear hb); (try clear hb2); (try clear hk); (try clear hi); (try clear ho0)))
 go_loopg [4] k (fun kq v4 w' => ∃ (x4_1 : Int), v4 = .int .i64 x4_1 ∧ Z0 (columbaryref10_Name.l0 kq a0 t160 x4_1 = some r) ∧ Z0 (kq ≤ k) ∧ Z0 (Kd.R Kd.string 9 w' w.heap.size (fun _ => True) v161 t160) ∧ Z0 (Below w.heap.size w w'))
 case atStart => exact ⟨(0), (by first | rfl | (simp; done) | (simp [*]; done)), H', ⟨Nat.le_refl _⟩, ⟨by (with_reducible repeat (first | apply Kd.R_alloc | apply Kd.R_drewN | apply Kd.R_drew)); exact HO162.out⟩, ⟨by repeat (first | (with_reducible first | exact HB.out | apply beA | apply bpN | apply bd1) | exact HB.out)⟩⟩
 case round =>
  clear H'
  try clear p2
  obtain ⟨x4_1, rfl, HA, HK1, HO_3, HB⟩ := hrel
  cases gk with
  | zero => exact absurd HA.out (by simp [columbaryref10_Name.l0])
  | succ k1 =>
   have H := HA.out
   clear HA
   simp only [columbaryref10_Name.l0] at H
   by_cases c4 : x4_1 < (t160.length : Int)
   ·rw [if_pos c4] at H
    have c4b0 : decide (x4_1 < (t160.length : Int)) = true := decide_eq_true c4
    clear c4
    by_cases c5 : 0 ≤ x4_1
    ·rw [if_pos c5] at H
     have c5b0 : decide (0 ≤ x4_1) = true := decide_eq_true c5
     clear c5
     by_cases c6 : (rdOf ByteArray.empty t160 x4_1).toList = a0.toList
     ·rw [if_pos c6] at H
      have c6b0 : ((rdOf ByteArray.empty t160 x4_1).toList == a0.toList) = true := beq_iff_eq.mpr c6
      have c6b1 : ((rdOf ByteArray.empty t160 x4_1).toList != a0.toList) = false := bne_eq_false_iff_eq.mpr c6
      clear c6
      obtain rfl := Option.some.inj H
      obtain ⟨Ao7, co7, eo7⟩ := Kd.R_slice HO_3.out
      subst eo7
      have p163 : 0 ≤ (x4_1 : Int) := of_decide_eq_true (by first | (with_reducible assumption) | assumption)
      have q163 : x4_1 < (t160.length : Int) := of_decide_eq_true (by first | (with_reducible assumption) | assumption)
      obtain ⟨ad163, e163, hx163_0⟩ := Kd.at_string (Kd.R_reads' HO_3.out).2.2 x4_1 p163 q163
      cases e163
      replace p163 := eq_true p163
      replace q163 := eq_true q163
      go_wp2
      go_ret
      exact ⟨by first | rfl | (simp [errW_none, errW_some] <;> rfl) | (simp [*, errW_none, errW_some] <;> rfl), by repeat (first | (with_reducible first | exact HB.out | apply beA | apply bpN | apply bd1) | exact HB.out)⟩
     ·rw [if_neg c6] at H
      have c6b0 : ((rdOf ByteArray.empty t160 x4_1).toList == a0.toList) = false := beq_eq_false_iff_ne.mpr c6
      have c6b1 : ((rdOf ByteArray.empty t160 x4_1).toList != a0.toList) = true := bne_iff_ne.mpr c6
      have H' := Z0.mk H
      clear H
      obtain ⟨Ao8, co8, eo8⟩ := Kd.R_slice HO_3.out
      subst eo8
      have p163 : 0 ≤ (x4_1 : Int) := of_decide_eq_true (by first | (with_reducible assumption) | assumption)
      have q163 : x4_1 < (t160.length : Int) := of_decide_eq_true (by first | (with_reducible assumption) | assumption)
      obtain ⟨ad163, e163, hx163_0⟩ := Kd.at_string (Kd.R_reads' HO_3.out).2.2 x4_1 p163 q163
      cases e163
      replace p163 := eq_true p163
      replace q163 := eq_true q163
      go_wp2
      go_roundg k1
      case measure => have := HK1.out; omega
      case rel => exact ⟨(wrap64 (x4_1 + 1)), (by first | rfl | (simp; done) | (simp [*]; done)), H', ⟨by have := HK1.out; omega⟩, ⟨by (with_reducible repeat (first | apply Kd.R_alloc | apply Kd.R_drewN | apply Kd.R_drew)); exact HO_3.out⟩, ⟨by repeat (first | (with_reducible first | exact HB.out | apply beA | apply bpN | apply bd1) | exact HB.out)⟩⟩
    ·rw [if_neg c5] at H
     exact absurd H (by simp)
   ·rw [if_neg c4] at H
    have c4b0 : decide (x4_1 < (t160.length : Int)) = false := decide_eq_false c4
    clear c4
    have H' := Z0.mk H
    clear H
    obtain ⟨Ao9, co9, eo9⟩ := Kd.R_slice HO_3.out
    subst eo9
    go_wp2
    go_loopg [5] k1 (fun kq v5 w' => ∃ (x5_2 : Int), v5 = .int .i64 x5_2 ∧ Z0 (columbaryref10_Name.l1 kq a0 x5_2 = some r) ∧ Z0 (kq ≤ k1) ∧ Z0 (Below w.heap.size w w'))
    case atStart => exact ⟨(0), (by first | rfl | (simp; done) | (simp [*]; done)), H', ⟨Nat.le_refl _⟩, ⟨by repeat (first | (with_reducible first | exact HB.out | apply beA | apply bpN | apply bd1) | exact HB.out)⟩⟩
    case round =>
     clear H'
     try clear p1
     try clear q1
     try clear hx1
     try clear p2
     try clear c4
     try clear c4b0
     try clear c5
     try clear c5b0
     try clear c6
     try clear c6b0
     try clear c6b1
     try clear p6
     try clear c7
     try clear hx163_0
     try clear p163
     try clear p2
     try clear q163
     obtain ⟨x5_2, rfl, HA, HK2, HB⟩ := hrel
     cases gk with
     | zero => exact absurd HA.out (by simp [columbaryref10_Name.l1])
     | succ k2 =>
      have H := HA.out
      clear HA
      simp only [columbaryref10_Name.l1] at H
      by_cases c10 : x5_2 < (a0.size : Int)
      ·rw [if_pos c10] at H
       have c10b0 : decide (x5_2 < (a0.size : Int)) = true := decide_eq_true c10
       clear c10
       by_cases c11 : 0 ≤ x5_2
       ·rw [if_pos c11] at H
        have c11b0 : decide (0 ≤ x5_2) = true := decide_eq_true c11
        clear c11
        by_cases c13 : (bt a0 x5_2) ≥ 97
        ·rw [if_pos c13] at H
         have c13b0 : decide (97 ≤ (bt a0 x5_2)) = true := decide_eq_true c13
         clear c13
         by_cases c16 : (bt a0 x5_2) ≥ 48
         ·rw [if_pos c16] at H
          have c16b0 : decide (48 ≤ (bt a0 x5_2)) = true := decide_eq_true c16
          clear c16
          by_cases c18 : (bt a0 x5_2) ≤ 57
          ·rw [if_pos c18] at H
           have c18b0 : decide ((bt a0 x5_2) ≤ 57) = true := decide_eq_true c18
           clear c18
           by_cases c19 : ((bt a0 x5_2) ≤ 122)
           ·rw [if_pos c19] at H
            have c19b0 : decide ((bt a0 x5_2) ≤ 122) = true := decide_eq_true c19
            clear c19
            have H' := Z0.mk H
            clear H
            have p12 : 0 ≤ (x5_2 : Int) := of_decide_eq_true (by first | (with_reducible assumption) | assumption)
            have q12 : x5_2 < (a0.size : Int) := of_decide_eq_true (by first | (with_reducible assumption) | assumption)
            have hx12 := bt_at a0 x5_2
            replace p12 := eq_true p12
            replace q12 := eq_true q12
            have p14 : 0 ≤ (x5_2 : Int) := of_decide_eq_true (by first | (with_reducible assumption) | assumption)
            have q14 : x5_2 < (a0.size : Int) := of_decide_eq_true (by first | (with_reducible assumption) | assumption)
            have hx14 := bt_at a0 x5_2
            replace p14 := eq_true p14
            replace q14 := eq_true q14
            have p15 : 0 ≤ (x5_2 : Int) := of_decide_eq_true (by first | (with_reducible assumption) | assumption)
            have q15 : x5_2 < (a0.size : Int) := of_decide_eq_true (by first | (with_reducible assumption) | assumption)
            have hx15 := bt_at a0 x5_2
            replace p15 := eq_true p15
            replace q15 := eq_true q15
            have p17 : 0 ≤ (x5_2 : Int) := of_decide_eq_true (by first | (with_reducible assumption) | assumption)
            have q17 : x5_2 < (a0.size : Int) := of_decide_eq_true (by first | (with_reducible assumption) | assumption)
            have hx17 := bt_at a0 x5_2
            replace p17 := eq_true p17
            replace q17 := eq_true q17
            go_wp2
            go_roundg k2
            case measure => have := HK1.out; have := HK2.out; omega
            case rel => exact ⟨(wrap64 (x5_2 + 1)), (by first | rfl | (simp; done) | (simp [*]; done)), H', ⟨by have := HK1.out; have := HK2.out; omega⟩, ⟨by repeat (first | (with_reducible first | exact HB.out | apply beA | apply bpN | apply bd1) | exact HB.out)⟩⟩
           ·rw [if_neg c19] at H
            have c19b0 : decide ((bt a0 x5_2) ≤ 122) = false := decide_eq_false c19
            clear c19
            by_cases c20 : x5_2 = 0
            ·rw [if_pos c20] at H
             have c20b0 : (x5_2 == 0) = true := beq_iff_eq.mpr c20
             have c20b1 : (x5_2 != 0) = false := bne_eq_false_iff_eq.mpr c20
             clear c20
             obtain rfl := Option.some.inj H
             have p12 : 0 ≤ (x5_2 : Int) := of_decide_eq_true (by first | (with_reducible assumption) | assumption)
             have q12 : x5_2 < (a0.size : Int) := of_decide_eq_true (by first | (with_reducible assumption) | assumption)
             have hx12 := bt_at a0 x5_2
             replace p12 := eq_true p12
             replace q12 := eq_true q12
             have p14 : 0 ≤ (x5_2 : Int) := of_decide_eq_true (by first | (with_reducible assumption) | assumption)
             have q14 : x5_2 < (a0.size : Int) := of_decide_eq_true (by first | (with_reducible assumption) | assumption)
             have hx14 := bt_at a0 x5_2
             replace p14 := eq_true p14
             replace q14 := eq_true q14
             have p15 : 0 ≤ (x5_2 : Int) := of_decide_eq_true (by first | (with_reducible assumption) | assumption)
             have q15 : x5_2 < (a0.size : Int) := of_decide_eq_true (by first | (with_reducible assumption) | assumption)
             have hx15 := bt_at a0 x5_2
             replace p15 := eq_true p15
             replace q15 := eq_true q15
             have p17 : 0 ≤ (x5_2 : Int) := of_decide_eq_true (by first | (with_reducible assumption) | assumption)
             have q17 : x5_2 < (a0.size : Int) := of_decide_eq_true (by first | (with_reducible assumption) | assumption)
             have hx17 := bt_at a0 x5_2
             replace p17 := eq_true p17
             replace q17 := eq_true q17
             go_wp2
             go_ret
             exact ⟨by first | rfl | (simp [errW_none, errW_some] <;> rfl) | (simp [*, errW_none, errW_some] <;> rfl), by repeat (first | (with_reducible first | exact HB.out | apply beA | apply bpN | apply bd1) | exact HB.out)⟩
            ·rw [if_neg c20] at H
             have c20b0 : (x5_2 == 0) = false := beq_eq_false_iff_ne.mpr c20
             have c20b1 : (x5_2 != 0) = true := bne_iff_ne.mpr c20
             have H' := Z0.mk H
             clear H
             have p12 : 0 ≤ (x5_2 : Int) := of_decide_eq_true (by first | (with_reducible assumption) | assumption)
             have q12 : x5_2 < (a0.size : Int) := of_decide_eq_true (by first | (with_reducible assumption) | assumption)
             have hx12 := bt_at a0 x5_2
             replace p12 := eq_true p12
             replace q12 := eq_true q12
             have p14 : 0 ≤ (x5_2 : Int) := of_decide_eq_true (by first | (with_reducible assumption) | assumption)
             have q14 : x5_2 < (a0.size : Int) := of_decide_eq_true (by first | (with_reducible assumption) | assumption)
             have hx14 := bt_at a0 x5_2
             replace p14 := eq_true p14
             replace q14 := eq_true q14
             have p15 : 0 ≤ (x5_2 : Int) := of_decide_eq_true (by first | (with_reducible assumption) | assumption)
             have q15 : x5_2 < (a0.size : Int) := of_decide_eq_true (by first | (with_reducible assumption) | assumption)
             have hx15 := bt_at a0 x5_2
             replace p15 := eq_true p15
             replace q15 := eq_true q15
             have p17 : 0 ≤ (x5_2 : Int) := of_decide_eq_true (by first | (with_reducible assumption) | assumption)
             have q17 : x5_2 < (a0.size : Int) := of_decide_eq_true (by first | (with_reducible assumption) | assumption)
             have hx17 := bt_at a0 x5_2
             replace p17 := eq_true p17
             replace q17 := eq_true q17
             go_wp2
             go_roundg k2
             case measure => have := HK1.out; have := HK2.out; omega
             case rel => exact ⟨(wrap64 (x5_2 + 1)), (by first | rfl | (simp; done) | (simp [*]; done)), H', ⟨by have := HK1.out; have := HK2.out; omega⟩, ⟨by repeat (first | (with_reducible first | exact HB.out | apply beA | apply bpN | apply bd1) | exact HB.out)⟩⟩
          ·rw [if_neg c18] at H
           have c18b0 : decide ((bt a0 x5_2) ≤ 57) = false := decide_eq_false c18
           clear c18
           by_cases c22 : ((bt a0 x5_2) ≤ 122)
           ·rw [if_pos c22] at H
            have c22b0 : decide ((bt a0 x5_2) ≤ 122) = true := decide_eq_true c22
            clear c22
            have H' := Z0.mk H
            clear H
            have p12 : 0 ≤ (x5_2 : Int) := of_decide_eq_true (by first | (with_reducible assumption) | assumption)
            have q12 : x5_2 < (a0.size : Int) := of_decide_eq_true (by first | (with_reducible assumption) | assumption)
            have hx12 := bt_at a0 x5_2
            replace p12 := eq_true p12
            replace q12 := eq_true q12
            have p14 : 0 ≤ (x5_2 : Int) := of_decide_eq_true (by first | (with_reducible assumption) | assumption)
            have q14 : x5_2 < (a0.size : Int) := of_decide_eq_true (by first | (with_reducible assumption) | assumption)
            have hx14 := bt_at a0 x5_2
            replace p14 := eq_true p14
            replace q14 := eq_true q14
            have p15 : 0 ≤ (x5_2 : Int) := of_decide_eq_true (by first | (with_reducible assumption) | assumption)
            have q15 : x5_2 < (a0.size : Int) := of_decide_eq_true (by first | (with_reducible assumption) | assumption)
            have hx15 := bt_at a0 x5_2
            replace p15 := eq_true p15
            replace q15 := eq_true q15
            have p17 : 0 ≤ (x5_2 : Int) := of_decide_eq_true (by first | (with_reducible assumption) | assumption)
            have q17 : x5_2 < (a0.size : Int) := of_decide_eq_true (by first | (with_reducible assumption) | assumption)
            have hx17 := bt_at a0 x5_2
            replace p17 := eq_true p17
            replace q17 := eq_true q17
            have p21 : 0 ≤ (x5_2 : Int) := of_decide_eq_true (by first | (with_reducible assumption) | assumption)
            have q21 : x5_2 < (a0.size : Int) := of_decide_eq_true (by first | (with_reducible assumption) | assumption)
            have hx21 := bt_at a0 x5_2
            replace p21 := eq_true p21
            replace q21 := eq_true q21
            go_wp2
            go_roundg k2
            case measure => have := HK1.out; have := HK2.out; omega
            case rel => exact ⟨(wrap64 (x5_2 + 1)), (by first | rfl | (simp; done) | (simp [*]; done)), H', ⟨by have := HK1.out; have := HK2.out; omega⟩, ⟨by repeat (first | (with_reducible first | exact HB.out | apply beA | apply bpN | apply bd1) | exact HB.out)⟩⟩
           ·rw [if_neg c22] at H
            have c22b0 : decide ((bt a0 x5_2) ≤ 122) = false := decide_eq_false c22
            clear c22
            by_cases c23 : ((bt a0 x5_2) = 95)
            ·rw [if_pos c23] at H
             have c23b0 : ((bt a0 x5_2) == 95) = true := beq_iff_eq.mpr c23
             have c23b1 : ((bt a0 x5_2) != 95) = false := bne_eq_false_iff_eq.mpr c23
             clear c23
             by_cases c24 : x5_2 = 0
             ·rw [if_pos c24] at H
              have c24b0 : (x5_2 == 0) = true := beq_iff_eq.mpr c24
              have c24b1 : (x5_2 != 0) = false := bne_eq_false_iff_eq.mpr c24
              clear c24
              obtain rfl := Option.some.inj H
              have p12 : 0 ≤ (x5_2 : Int) := of_decide_eq_true (by first | (with_reducible assumption) | assumption)
              have q12 : x5_2 < (a0.size : Int) := of_decide_eq_true (by first | (with_reducible assumption) | assumption)
              have hx12 := bt_at a0 x5_2
              replace p12 := eq_true p12
              replace q12 := eq_true q12
              have p14 : 0 ≤ (x5_2 : Int) := of_decide_eq_true (by first | (with_reducible assumption) | assumption)
              have q14 : x5_2 < (a0.size : Int) := of_decide_eq_true (by first | (with_reducible assumption) | assumption)
              have hx14 := bt_at a0 x5_2
              replace p14 := eq_true p14
              replace q14 := eq_true q14
              have p15 : 0 ≤ (x5_2 : Int) := of_decide_eq_true (by first | (with_reducible assumption) | assumption)
              have q15 : x5_2 < (a0.size : Int) := of_decide_eq_true (by first | (with_reducible assumption) | assumption)
              have hx15 := bt_at a0 x5_2
              replace p15 := eq_true p15
              replace q15 := eq_true q15
              have p17 : 0 ≤ (x5_2 : Int) := of_decide_eq_true (by first | (with_reducible assumption) | assumption)
              have q17 : x5_2 < (a0.size : Int) := of_decide_eq_true (by first | (with_reducible assumption) | assumption)
              have hx17 := bt_at a0 x5_2
              replace p17 := eq_true p17
              replace q17 := eq_true q17
              have p21 : 0 ≤ (x5_2 : Int) := of_decide_eq_true (by first | (with_reducible assumption) | assumption)
              have q21 : x5_2 < (a0.size : Int) := of_decide_eq_true (by first | (with_reducible assumption) | assumption)
              have hx21 := bt_at a0 x5_2
              replace p21 := eq_true p21
              replace q21 := eq_true q21
              go_wp2
              go_ret
              exact ⟨by first | rfl | (simp [errW_none, errW_some] <;> rfl) | (simp [*, errW_none, errW_some] <;> rfl), by repeat (first | (with_reducible first | exact HB.out | apply beA | apply bpN | apply bd1) | exact HB.out)⟩
             ·rw [if_neg c24] at H
              have c24b0 : (x5_2 == 0) = false := beq_eq_false_iff_ne.mpr c24
              have c24b1 : (x5_2 != 0) = true := bne_iff_ne.mpr c24
              have H' := Z0.mk H
              clear H
              have p12 : 0 ≤ (x5_2 : Int) := of_decide_eq_true (by first | (with_reducible assumption) | assumption)
              have q12 : x5_2 < (a0.size : Int) := of_decide_eq_true (by first | (with_reducible assumption) | assumption)
              have hx12 := bt_at a0 x5_2
              replace p12 := eq_true p12
              replace q12 := eq_true q12
              have p14 : 0 ≤ (x5_2 : Int) := of_decide_eq_true (by first | (with_reducible assumption) | assumption)
              have q14 : x5_2 < (a0.size : Int) := of_decide_eq_true (by first | (with_reducible assumption) | assumption)
              have hx14 := bt_at a0 x5_2
              replace p14 := eq_true p14
              replace q14 := eq_true q14
              have p15 : 0 ≤ (x5_2 : Int) := of_decide_eq_true (by first | (with_reducible assumption) | assumption)
              have q15 : x5_2 < (a0.size : Int) := of_decide_eq_true (by first | (with_reducible assumption) | assumption)
              have hx15 := bt_at a0 x5_2
              replace p15 := eq_true p15
              replace q15 := eq_true q15
              have p17 : 0 ≤ (x5_2 : Int) := of_decide_eq_true (by first | (with_reducible assumption) | assumption)
              have q17 : x5_2 < (a0.size : Int) := of_decide_eq_true (by first | (with_reducible assumption) | assumption)
              have hx17 := bt_at a0 x5_2
              replace p17 := eq_true p17
              replace q17 := eq_true q17
              have p21 : 0 ≤ (x5_2 : Int) := of_decide_eq_true (by first | (with_reducible assumption) | assumption)
              have q21 : x5_2 < (a0.size : Int) := of_decide_eq_true (by first | (with_reducible assumption) | assumption)
              have hx21 := bt_at a0 x5_2
              replace p21 := eq_true p21
              replace q21 := eq_true q21
              go_wp2
              go_roundg k2
              case measure => have := HK1.out; have := HK2.out; omega
              case rel => exact ⟨(wrap64 (x5_2 + 1)), (by first | rfl | (simp; done) | (simp [*]; done)), H', ⟨by have := HK1.out; have := HK2.out; omega⟩, ⟨by repeat (first | (with_reducible first | exact HB.out | apply beA | apply bpN | apply bd1) | exact HB.out)⟩⟩
            ·rw [if_neg c23] at H
             have c23b0 : ((bt a0 x5_2) == 95) = false := beq_eq_false_iff_ne.mpr c23
             have c23b1 : ((bt a0 x5_2) != 95) = true := bne_iff_ne.mpr c23
             obtain rfl := Option.some.inj H
             have p12 : 0 ≤ (x5_2 : Int) := of_decide_eq_true (by first | (with_reducible assumption) | assumption)
             have q12 : x5_2 < (a0.size : Int) := of_decide_eq_true (by first | (with_reducible assumption) | assumption)
             have hx12 := bt_at a0 x5_2
             replace p12 := eq_true p12
             replace q12 := eq_true q12
             have p14 : 0 ≤ (x5_2 : Int) := of_decide_eq_true (by first | (with_reducible assumption) | assumption)
             have q14 : x5_2 < (a0.size : Int) := of_decide_eq_true (by first | (with_reducible assumption) | assumption)
             have hx14 := bt_at a0 x5_2
             replace p14 := eq_true p14
             replace q14 := eq_true q14
             have p15 : 0 ≤ (x5_2 : Int) := of_decide_eq_true (by first | (with_reducible assumption) | assumption)
             have q15 : x5_2 < (a0.size : Int) := of_decide_eq_true (by first | (with_reducible assumption) | assumption)
             have hx15 := bt_at a0 x5_2
             replace p15 := eq_true p15
             replace q15 := eq_true q15
             have p17 : 0 ≤ (x5_2 : Int) := of_decide_eq_true (by first | (with_reducible assumption) | assumption)
             have q17 : x5_2 < (a0.size : Int) := of_decide_eq_true (by first | (with_reducible assumption) | assumption)
             have hx17 := bt_at a0 x5_2
             replace p17 := eq_true p17
             replace q17 := eq_true q17
             have p21 : 0 ≤ (x5_2 : Int) := of_decide_eq_true (by first | (with_reducible assumption) | assumption)
             have q21 : x5_2 < (a0.size : Int) := of_decide_eq_true (by first | (with_reducible assumption) | assumption)
             have hx21 := bt_at a0 x5_2
             replace p21 := eq_true p21
             replace q21 := eq_true q21
             go_wp2
             go_ret
             exact ⟨by first | rfl | (simp [errW_none, errW_some] <;> rfl) | (simp [*, errW_none, errW_some] <;> rfl), by repeat (first | (with_reducible first | exact HB.out | apply beA | apply bpN | apply bd1) | exact HB.out)⟩
         ·rw [if_neg c16] at H
          have c16b0 : decide (48 ≤ (bt a0 x5_2)) = false := decide_eq_false c16
          clear c16
          by_cases c26 : ((bt a0 x5_2) ≤ 122)
          ·rw [if_pos c26] at H
           have c26b0 : decide ((bt a0 x5_2) ≤ 122) = true := decide_eq_true c26
           clear c26
           have H' := Z0.mk H
           clear H
           have p12 : 0 ≤ (x5_2 : Int) := of_decide_eq_true (by first | (with_reducible assumption) | assumption)
           have q12 : x5_2 < (a0.size : Int) := of_decide_eq_true (by first | (with_reducible assumption) | assumption)
           have hx12 := bt_at a0 x5_2
           replace p12 := eq_true p12
           replace q12 := eq_true q12
           have p14 : 0 ≤ (x5_2 : Int) := of_decide_eq_true (by first | (with_reducible assumption) | assumption)
           have q14 : x5_2 < (a0.size : Int) := of_decide_eq_true (by first | (with_reducible assumption) | assumption)
           have hx14 := bt_at a0 x5_2
           replace p14 := eq_true p14
           replace q14 := eq_true q14
           have p15 : 0 ≤ (x5_2 : Int) := of_decide_eq_true (by first | (with_reducible assumption) | assumption)
           have q15 : x5_2 < (a0.size : Int) := of_decide_eq_true (by first | (with_reducible assumption) | assumption)
           have hx15 := bt_at a0 x5_2
           replace p15 := eq_true p15
           replace q15 := eq_true q15
           have p25 : 0 ≤ (x5_2 : Int) := of_decide_eq_true (by first | (with_reducible assumption) | assumption)
           have q25 : x5_2 < (a0.size : Int) := of_decide_eq_true (by first | (with_reducible assumption) | assumption)
           have hx25 := bt_at a0 x5_2
           replace p25 := eq_true p25
           replace q25 := eq_true q25
           go_wp2
           go_roundg k2
           case measure => have := HK1.out; have := HK2.out; omega
           case rel => exact ⟨(wrap64 (x5_2 + 1)), (by first | rfl | (simp; done) | (simp [*]; done)), H', ⟨by have := HK1.out; have := HK2.out; omega⟩, ⟨by repeat (first | (with_reducible first | exact HB.out | apply beA | apply bpN | apply bd1) | exact HB.out)⟩⟩
          ·rw [if_neg c26] at H
           have c26b0 : decide ((bt a0 x5_2) ≤ 122) = false := decide_eq_false c26
           clear c26
           by_cases c27 : ((bt a0 x5_2) = 95)
           ·rw [if_pos c27] at H
            have c27b0 : ((bt a0 x5_2) == 95) = true := beq_iff_eq.mpr c27
            have c27b1 : ((bt a0 x5_2) != 95) = false := bne_eq_false_iff_eq.mpr c27
            clear c27
            by_cases c28 : x5_2 = 0
            ·rw [if_pos c28] at H
             have c28b0 : (x5_2 == 0) = true := beq_iff_eq.mpr c28
             have c28b1 : (x5_2 != 0) = false := bne_eq_false_iff_eq.mpr c28
             clear c28
             obtain rfl := Option.some.inj H
             have p12 : 0 ≤ (x5_2 : Int) := of_decide_eq_true (by first | (with_reducible assumption) | assumption)
             have q12 : x5_2 < (a0.size : Int) := of_decide_eq_true (by first | (with_reducible assumption) | assumption)
             have hx12 := bt_at a0 x5_2
             replace p12 := eq_true p12
             replace q12 := eq_true q12
             have p14 : 0 ≤ (x5_2 : Int) := of_decide_eq_true (by first | (with_reducible assumption) | assumption)
             have q14 : x5_2 < (a0.size : Int) := of_decide_eq_true (by first | (with_reducible assumption) | assumption)
             have hx14 := bt_at a0 x5_2
             replace p14 := eq_true p14
             replace q14 := eq_true q14
             have p15 : 0 ≤ (x5_2 : Int) := of_decide_eq_true (by first | (with_reducible assumption) | assumption)
             have q15 : x5_2 < (a0.size : Int) := of_decide_eq_true (by first | (with_reducible assumption) | assumption)
             have hx15 := bt_at a0 x5_2
             replace p15 := eq_true p15
             replace q15 := eq_true q15
             have p25 : 0 ≤ (x5_2 : Int) := of_decide_eq_true (by first | (with_reducible assumption) | assumption)
             have q25 : x5_2 < (a0.size : Int) := of_decide_eq_true (by first | (with_reducible assumption) | assumption)
             have hx25 := bt_at a0 x5_2
             replace p25 := eq_true p25
             replace q25 := eq_true q25
             go_wp2
             go_ret
             exact ⟨by first | rfl | (simp [errW_none, errW_some] <;> rfl) | (simp [*, errW_none, errW_some] <;> rfl), by repeat (first | (with_reducible first | exact HB.out | apply beA | apply bpN | apply bd1) | exact HB.out)⟩
            ·rw [if_neg c28] at H
             have c28b0 : (x5_2 == 0) = false := beq_eq_false_iff_ne.mpr c28
             have c28b1 : (x5_2 != 0) = true := bne_iff_ne.mpr c28
             have H' := Z0.mk H
             clear H
             have p12 : 0 ≤ (x5_2 : Int) := of_decide_eq_true (by first | (with_reducible assumption) | assumption)
             have q12 : x5_2 < (a0.size : Int) := of_decide_eq_true (by first | (with_reducible assumption) | assumption)
             have hx12 := bt_at a0 x5_2
             replace p12 := eq_true p12
             replace q12 := eq_true q12
             have p14 : 0 ≤ (x5_2 : Int) := of_decide_eq_true (by first | (with_reducible assumption) | assumption)
             have q14 : x5_2 < (a0.size : Int) := of_decide_eq_true (by first | (with_reducible assumption) | assumption)
             have hx14 := bt_at a0 x5_2
             replace p14 := eq_true p14
             replace q14 := eq_true q14
             have p15 : 0 ≤ (x5_2 : Int) := of_decide_eq_true (by first | (with_reducible assumption) | assumption)
             have q15 : x5_2 < (a0.size : Int) := of_decide_eq_true (by first | (with_reducible assumption) | assumption)
             have hx15 := bt_at a0 x5_2
             replace p15 := eq_true p15
             replace q15 := eq_true q15
             have p25 : 0 ≤ (x5_2 : Int) := of_decide_eq_true (by first | (with_reducible assumption) | assumption)
             have q25 : x5_2 < (a0.size : Int) := of_decide_eq_true (by first | (with_reducible assumption) | assumption)
             have hx25 := bt_at a0 x5_2
             replace p25 := eq_true p25
             replace q25 := eq_true q25
             go_wp2
             go_roundg k2
             case measure => have := HK1.out; have := HK2.out; omega
             case rel => exact ⟨(wrap64 (x5_2 + 1)), (by first | rfl | (simp; done) | (simp [*]; done)), H', ⟨by have := HK1.out; have := HK2.out; omega⟩, ⟨by repeat (first | (with_reducible first | exact HB.out | apply beA | apply bpN | apply bd1) | exact HB.out)⟩⟩
           ·rw [if_neg c27] at H
            have c27b0 : ((bt a0 x5_2) == 95) = false := beq_eq_false_iff_ne.mpr c27
            have c27b1 : ((bt a0 x5_2) != 95) = true := bne_iff_ne.mpr c27
            obtain rfl := Option.some.inj H
            have p12 : 0 ≤ (x5_2 : Int) := of_decide_eq_true (by first | (with_reducible assumption) | assumption)
            have q12 : x5_2 < (a0.size : Int) := of_decide_eq_true (by first | (with_reducible assumption) | assumption)
            have hx12 := bt_at a0 x5_2
            replace p12 := eq_true p12
            replace q12 := eq_true q12
            have p14 : 0 ≤ (x5_2 : Int) := of_decide_eq_true (by first | (with_reducible assumption) | assumption)
            have q14 : x5_2 < (a0.size : Int) := of_decide_eq_true (by first | (with_reducible assumption) | assumption)
            have hx14 := bt_at a0 x5_2
            replace p14 := eq_true p14
            replace q14 := eq_true q14
            have p15 : 0 ≤ (x5_2 : Int) := of_decide_eq_true (by first | (with_reducible assumption) | assumption)
            have q15 : x5_2 < (a0.size : Int) := of_decide_eq_true (by first | (with_reducible assumption) | assumption)
            have hx15 := bt_at a0 x5_2
            replace p15 := eq_true p15
            replace q15 := eq_true q15
            have p25 : 0 ≤ (x5_2 : Int) := of_decide_eq_true (by first | (with_reducible assumption) | assumption)
            have q25 : x5_2 < (a0.size : Int) := of_decide_eq_true (by first | (with_reducible assumption) | assumption)
            have hx25 := bt_at a0 x5_2
            replace p25 := eq_true p25
            replace q25 := eq_true q25
            go_wp2
            go_ret
            exact ⟨by first | rfl | (simp [errW_none, errW_some] <;> rfl) | (simp [*, errW_none, errW_some] <;> rfl), by repeat (first | (with_reducible first | exact HB.out | apply beA | apply bpN | apply bd1) | exact HB.out)⟩
        ·rw [if_neg c13] at H
         have c13b0 : decide (97 ≤ (bt a0 x5_2)) = false := decide_eq_false c13
         clear c13
         by_cases c30 : (bt a0 x5_2) ≥ 48
         ·rw [if_pos c30] at H
          have c30b0 : decide (48 ≤ (bt a0 x5_2)) = true := decide_eq_true c30
          clear c30
          by_cases c32 : (bt a0 x5_2) ≤ 57
          ·rw [if_pos c32] at H
           have c32b0 : decide ((bt a0 x5_2) ≤ 57) = true := decide_eq_true c32
           clear c32
           by_cases c33 : x5_2 = 0
           ·rw [if_pos c33] at H
            have c33b0 : (x5_2 == 0) = true := beq_iff_eq.mpr c33
            have c33b1 : (x5_2 != 0) = false := bne_eq_false_iff_eq.mpr c33
            clear c33
            obtain rfl := Option.some.inj H
            have p12 : 0 ≤ (x5_2 : Int) := of_decide_eq_true (by first | (with_reducible assumption) | assumption)
            have q12 : x5_2 < (a0.size : Int) := of_decide_eq_true (by first | (with_reducible assumption) | assumption)
            have hx12 := bt_at a0 x5_2
            replace p12 := eq_true p12
            replace q12 := eq_true q12
            have p29 : 0 ≤ (x5_2 : Int) := of_decide_eq_true (by first | (with_reducible assumption) | assumption)
            have q29 : x5_2 < (a0.size : Int) := of_decide_eq_true (by first | (with_reducible assumption) | assumption)
            have hx29 := bt_at a0 x5_2
            replace p29 := eq_true p29
            replace q29 := eq_true q29
            have p31 : 0 ≤ (x5_2 : Int) := of_decide_eq_true (by first | (with_reducible assumption) | assumption)
            have q31 : x5_2 < (a0.size : Int) := of_decide_eq_true (by first | (with_reducible assumption) | assumption)
            have hx31 := bt_at a0 x5_2
            replace p31 := eq_true p31
            replace q31 := eq_true q31
            go_wp2
            go_ret
            exact ⟨by first | rfl | (simp [errW_none, errW_some] <;> rfl) | (simp [*, errW_none, errW_some] <;> rfl), by repeat (first | (with_reducible first | exact HB.out | apply beA | apply bpN | apply bd1) | exact HB.out)⟩
           ·rw [if_neg c33] at H
            have c33b0 : (x5_2 == 0) = false := beq_eq_false_iff_ne.mpr c33
            have c33b1 : (x5_2 != 0) = true := bne_iff_ne.mpr c33
            have H' := Z0.mk H
            clear H
            have p12 : 0 ≤ (x5_2 : Int) := of_decide_eq_true (by first | (with_reducible assumption) | assumption)
            have q12 : x5_2 < (a0.size : Int) := of_decide_eq_true (by first | (with_reducible assumption) | assumption)
            have hx12 := bt_at a0 x5_2
            replace p12 := eq_true p12
            replace q12 := eq_true q12
            have p29 : 0 ≤ (x5_2 : Int) := of_decide_eq_true (by first | (with_reducible assumption) | assumption)
            have q29 : x5_2 < (a0.size : Int) := of_decide_eq_true (by first | (with_reducible assumption) | assumption)
            have hx29 := bt_at a0 x5_2
            replace p29 := eq_true p29
            replace q29 := eq_true q29
            have p31 : 0 ≤ (x5_2 : Int) := of_decide_eq_true (by first | (with_reducible assumption) | assumption)
            have q31 : x5_2 < (a0.size : Int) := of_decide_eq_true (by first | (with_reducible assumption) | assumption)
            have hx31 := bt_at a0 x5_2
            replace p31 := eq_true p31
            replace q31 := eq_true q31
            go_wp2
            go_roundg k2
            case measure => have := HK1.out; have := HK2.out; omega
            case rel => exact ⟨(wrap64 (x5_2 + 1)), (by first | rfl | (simp; done) | (simp [*]; done)), H', ⟨by have := HK1.out; have := HK2.out; omega⟩, ⟨by repeat (first | (with_reducible first | exact HB.out | apply beA | apply bpN | apply bd1) | exact HB.out)⟩⟩
          ·rw [if_neg c32] at H
           have c32b0 : decide ((bt a0 x5_2) ≤ 57) = false := decide_eq_false c32
           clear c32
           by_cases c35 : ((bt a0 x5_2) = 95)
           ·rw [if_pos c35] at H
            have c35b0 : ((bt a0 x5_2) == 95) = true := beq_iff_eq.mpr c35
            have c35b1 : ((bt a0 x5_2) != 95) = false := bne_eq_false_iff_eq.mpr c35
            clear c35
            by_cases c36 : x5_2 = 0
            ·rw [if_pos c36] at H
             have c36b0 : (x5_2 == 0) = true := beq_iff_eq.mpr c36
             have c36b1 : (x5_2 != 0) = false := bne_eq_false_iff_eq.mpr c36
             clear c36
             obtain rfl := Option.some.inj H
             have p12 : 0 ≤ (x5_2 : Int) := of_decide_eq_true (by first | (with_reducible assumption) | assumption)
             have q12 : x5_2 < (a0.size : Int) := of_decide_eq_true (by first | (with_reducible assumption) | assumption)
             have hx12 := bt_at a0 x5_2
             replace p12 := eq_true p12
             replace q12 := eq_true q12
             have p29 : 0 ≤ (x5_2 : Int) := of_decide_eq_true (by first | (with_reducible assumption) | assumption)
             have q29 : x5_2 < (a0.size : Int) := of_decide_eq_true (by first | (with_reducible assumption) | assumption)
             have hx29 := bt_at a0 x5_2
             replace p29 := eq_true p29
             replace q29 := eq_true q29
             have p31 : 0 ≤ (x5_2 : Int) := of_decide_eq_true (by first | (with_reducible assumption) | assumption)
             have q31 : x5_2 < (a0.size : Int) := of_decide_eq_true (by first | (with_reducible assumption) | assumption)
             have hx31 := bt_at a0 x5_2
             replace p31 := eq_true p31
             replace q31 := eq_true q31
             have p34 : 0 ≤ (x5_2 : Int) := of_decide_eq_true (by first | (with_reducible assumption) | assumption)
             have q34 : x5_2 < (a0.size : Int) := of_decide_eq_true (by first | (with_reducible assumption) | assumption)
             have hx34 := bt_at a0 x5_2
             replace p34 := eq_true p34
             replace q34 := eq_true q34
             go_wp2
             go_ret
             exact ⟨by first | rfl | (simp [errW_none, errW_some] <;> rfl) | (simp [*, errW_none, errW_some] <;> rfl), by repeat (first | (with_reducible first | exact HB.out | apply beA | apply bpN | apply bd1) | exact HB.out)⟩
            ·rw [if_neg c36] at H
             have c36b0 : (x5_2 == 0) = false := beq_eq_false_iff_ne.mpr c36
             have c36b1 : (x5_2 != 0) = true := bne_iff_ne.mpr c36
             have H' := Z0.mk H
             clear H
             have p12 : 0 ≤ (x5_2 : Int) := of_decide_eq_true (by first | (with_reducible assumption) | assumption)
             have q12 : x5_2 < (a0.size : Int) := of_decide_eq_true (by first | (with_reducible assumption) | assumption)
             have hx12 := bt_at a0 x5_2
             replace p12 := eq_true p12
             replace q12 := eq_true q12
             have p29 : 0 ≤ (x5_2 : Int) := of_decide_eq_true (by first | (with_reducible assumption) | assumption)
             have q29 : x5_2 < (a0.size : Int) := of_decide_eq_true (by first | (with_reducible assumption) | assumption)
             have hx29 := bt_at a0 x5_2
             replace p29 := eq_true p29
             replace q29 := eq_true q29
             have p31 : 0 ≤ (x5_2 : Int) := of_decide_eq_true (by first | (with_reducible assumption) | assumption)
             have q31 : x5_2 < (a0.size : Int) := of_decide_eq_true (by first | (with_reducible assumption) | assumption)
             have hx31 := bt_at a0 x5_2
             replace p31 := eq_true p31
             replace q31 := eq_true q31
             have p34 : 0 ≤ (x5_2 : Int) := of_decide_eq_true (by first | (with_reducible assumption) | assumption)
             have q34 : x5_2 < (a0.size : Int) := of_decide_eq_true (by first | (with_reducible assumption) | assumption)
             have hx34 := bt_at a0 x5_2
             replace p34 := eq_true p34
             replace q34 := eq_true q34
             go_wp2
             go_roundg k2
             case measure => have := HK1.out; have := HK2.out; omega
             case rel => exact ⟨(wrap64 (x5_2 + 1)), (by first | rfl | (simp; done) | (simp [*]; done)), H', ⟨by have := HK1.out; have := HK2.out; omega⟩, ⟨by repeat (first | (with_reducible first | exact HB.out | apply beA | apply bpN | apply bd1) | exact HB.out)⟩⟩
           ·rw [if_neg c35] at H
            have c35b0 : ((bt a0 x5_2) == 95) = false := beq_eq_false_iff_ne.mpr c35
            have c35b1 : ((bt a0 x5_2) != 95) = true := bne_iff_ne.mpr c35
            obtain rfl := Option.some.inj H
            have p12 : 0 ≤ (x5_2 : Int) := of_decide_eq_true (by first | (with_reducible assumption) | assumption)
            have q12 : x5_2 < (a0.size : Int) := of_decide_eq_true (by first | (with_reducible assumption) | assumption)
            have hx12 := bt_at a0 x5_2
            replace p12 := eq_true p12
            replace q12 := eq_true q12
            have p29 : 0 ≤ (x5_2 : Int) := of_decide_eq_true (by first | (with_reducible assumption) | assumption)
            have q29 : x5_2 < (a0.size : Int) := of_decide_eq_true (by first | (with_reducible assumption) | assumption)
            have hx29 := bt_at a0 x5_2
            replace p29 := eq_true p29
            replace q29 := eq_true q29
            have p31 : 0 ≤ (x5_2 : Int) := of_decide_eq_true (by first | (with_reducible assumption) | assumption)
            have q31 : x5_2 < (a0.size : Int) := of_decide_eq_true (by first | (with_reducible assumption) | assumption)
            have hx31 := bt_at a0 x5_2
            replace p31 := eq_true p31
            replace q31 := eq_true q31
            have p34 : 0 ≤ (x5_2 : Int) := of_decide_eq_true (by first | (with_reducible assumption) | assumption)
            have q34 : x5_2 < (a0.size : Int) := of_decide_eq_true (by first | (with_reducible assumption) | assumption)
            have hx34 := bt_at a0 x5_2
            replace p34 := eq_true p34
            replace q34 := eq_true q34
            go_wp2
            go_ret
            exact ⟨by first | rfl | (simp [errW_none, errW_some] <;> rfl) | (simp [*, errW_none, errW_some] <;> rfl), by repeat (first | (with_reducible first | exact HB.out | apply beA | apply bpN | apply bd1) | exact HB.out)⟩
         ·rw [if_neg c30] at H
          have c30b0 : decide (48 ≤ (bt a0 x5_2)) = false := decide_eq_false c30
          clear c30
          by_cases c38 : ((bt a0 x5_2) = 95)
          ·rw [if_pos c38] at H
           have c38b0 : ((bt a0 x5_2) == 95) = true := beq_iff_eq.mpr c38
           have c38b1 : ((bt a0 x5_2) != 95) = false := bne_eq_false_iff_eq.mpr c38
           clear c38
           by_cases c39 : x5_2 = 0
           ·rw [if_pos c39] at H
            have c39b0 : (x5_2 == 0) = true := beq_iff_eq.mpr c39
            have c39b1 : (x5_2 != 0) = false := bne_eq_false_iff_eq.mpr c39
            clear c39
            obtain rfl := Option.some.inj H
            have p12 : 0 ≤ (x5_2 : Int) := of_decide_eq_true (by first | (with_reducible assumption) | assumption)
            have q12 : x5_2 < (a0.size : Int) := of_decide_eq_true (by first | (with_reducible assumption) | assumption)
            have hx12 := bt_at a0 x5_2
            replace p12 := eq_true p12
            replace q12 := eq_true q12
            have p29 : 0 ≤ (x5_2 : Int) := of_decide_eq_true (by first | (with_reducible assumption) | assumption)
            have q29 : x5_2 < (a0.size : Int) := of_decide_eq_true (by first | (with_reducible assumption) | assumption)
            have hx29 := bt_at a0 x5_2
            replace p29 := eq_true p29
            replace q29 := eq_true q29
            have p37 : 0 ≤ (x5_2 : Int) := of_decide_eq_true (by first | (with_reducible assumption) | assumption)
            have q37 : x5_2 < (a0.size : Int) := of_decide_eq_true (by first | (with_reducible assumption) | assumption)
            have hx37 := bt_at a0 x5_2
            replace p37 := eq_true p37
            replace q37 := eq_true q37
            go_wp2
            go_ret
            exact ⟨by first | rfl | (simp [errW_none, errW_some] <;> rfl) | (simp [*, errW_none, errW_some] <;> rfl), by repeat (first | (with_reducible first | exact HB.out | apply beA | apply bpN | apply bd1) | exact HB.out)⟩
           ·rw [if_neg c39] at H
            have c39b0 : (x5_2 == 0) = false := beq_eq_false_iff_ne.mpr c39
            have c39b1 : (x5_2 != 0) = true := bne_iff_ne.mpr c39
            have H' := Z0.mk H
            clear H
            have p12 : 0 ≤ (x5_2 : Int) := of_decide_eq_true (by first | (with_reducible assumption) | assumption)
            have q12 : x5_2 < (a0.size : Int) := of_decide_eq_true (by first | (with_reducible assumption) | assumption)
            have hx12 := bt_at a0 x5_2
            replace p12 := eq_true p12
            replace q12 := eq_true q12
            have p29 : 0 ≤ (x5_2 : Int) := of_decide_eq_true (by first | (with_reducible assumption) | assumption)
            have q29 : x5_2 < (a0.size : Int) := of_decide_eq_true (by first | (with_reducible assumption) | assumption)
            have hx29 := bt_at a0 x5_2
            replace p29 := eq_true p29
            replace q29 := eq_true q29
            have p37 : 0 ≤ (x5_2 : Int) := of_decide_eq_true (by first | (with_reducible assumption) | assumption)
            have q37 : x5_2 < (a0.size : Int) := of_decide_eq_true (by first | (with_reducible assumption) | assumption)
            have hx37 := bt_at a0 x5_2
            replace p37 := eq_true p37
            replace q37 := eq_true q37
            go_wp2
            go_roundg k2
            case measure => have := HK1.out; have := HK2.out; omega
            case rel => exact ⟨(wrap64 (x5_2 + 1)), (by first | rfl | (simp; done) | (simp [*]; done)), H', ⟨by have := HK1.out; have := HK2.out; omega⟩, ⟨by repeat (first | (with_reducible first | exact HB.out | apply beA | apply bpN | apply bd1) | exact HB.out)⟩⟩
          ·rw [if_neg c38] at H
           have c38b0 : ((bt a0 x5_2) == 95) = false := beq_eq_false_iff_ne.mpr c38
           have c38b1 : ((bt a0 x5_2) != 95) = true := bne_iff_ne.mpr c38
           obtain rfl := Option.some.inj H
           have p12 : 0 ≤ (x5_2 : Int) := of_decide_eq_true (by first | (with_reducible assumption) | assumption)
           have q12 : x5_2 < (a0.size : Int) := of_decide_eq_true (by first | (with_reducible assumption) | assumption)
           have hx12 := bt_at a0 x5_2
           replace p12 := eq_true p12
           replace q12 := eq_true q12
           have p29 : 0 ≤ (x5_2 : Int) := of_decide_eq_true (by first | (with_reducible assumption) | assumption)
           have q29 : x5_2 < (a0.size : Int) := of_decide_eq_true (by first | (with_reducible assumption) | assumption)
           have hx29 := bt_at a0 x5_2
           replace p29 := eq_true p29
           replace q29 := eq_true q29
           have p37 : 0 ≤ (x5_2 : Int) := of_decide_eq_true (by first | (with_reducible assumption) | assumption)
           have q37 : x5_2 < (a0.size : Int) := of_decide_eq_true (by first | (with_reducible assumption) | assumption)
           have hx37 := bt_at a0 x5_2
           replace p37 := eq_true p37
           replace q37 := eq_true q37
           go_wp2
           go_ret
           exact ⟨by first | rfl | (simp [errW_none, errW_some] <;> rfl) | (simp [*, errW_none, errW_some] <;> rfl), by repeat (first | (with_reducible first | exact HB.out | apply beA | apply bpN | apply bd1) | exact HB.out)⟩
       ·rw [if_neg c11] at H
        exact absurd H (by simp)
      ·rw [if_neg c10] at H
       have c10b0 : decide (x5_2 < (a0.size : Int)) = false := decide_eq_false c10
       clear c10
       by_cases c40 : (a0.size : Int) ≥ 1
       ·rw [if_pos c40] at H
        have c40b0 : decide (1 ≤ (a0.size : Int)) = true := decide_eq_true c40
        have c40b1 : decide (1 ≤ a0.size) = true := decide_eq_true (by omega)
        clear c40
        obtain rfl := Option.some.inj H
        go_wp2
        go_ret
        exact ⟨by first | rfl | (simp [errW_none, errW_some] <;> rfl) | (simp [*, errW_none, errW_some] <;> rfl), by repeat (first | (with_reducible first | exact HB.out | apply beA | apply bpN | apply bd1) | exact HB.out)⟩
       ·rw [if_neg c40] at H
        have c40b0 : decide (1 ≤ (a0.size : Int)) = false := decide_eq_false c40
        have c40b1 : decide (1 ≤ a0.size) = false := decide_eq_false (by omega)
        clear c40
        obtain rfl := Option.some.inj H
        go_wp2
        go_ret
        exact ⟨by first | rfl | (simp [errW_none, errW_some] <;> rfl) | (simp [*, errW_none, errW_some] <;> rfl), by repeat (first | (with_reducible first | exact HB.out | apply beA | apply bpN | apply bd1) | exact HB.out)⟩
end Go.Proofs.Ytdeeffahfkndkaa.P
namespace Go.Proofs.Ytdeeffahfkndkaa.P
open Go.RowKit Go.Proofs.YtdeeffahfkndkaaW.PrintWords Go.Proofs.YtdeeffahfkndkaaW.PrintLast Go.Proofs.YtdeeffahfkndkaaW.PrintMore
attribute [local go_sem] max2_int min2_int max_two min_two max_three min_three max_four min_four
set_option linter.unusedVariables false
set_option linter.unusedSimpArgs false
mutual
def columbaryref10_Right.l0 : Nat → List ByteArray → Int → List ByteArray → List ByteArray → Option (Bool)
 | 0, _, _, _, _ => none
 | k + 1, x3, x4, x165000, x165001 => if x4 < (x3.length : Int) then (if 0 ≤ x4 then ((columbaryref10_Name.f k (rdOf ByteArray.empty x3 x4)).bind fun t175 => (if t175 = true then (columbaryref10_Right.l1 k x3 x4 0 x165000 x165001) else (some false))) else (none)) else (if (x165000.length : Int) ≥ 1 then (if (x165000.length : Int) ≤ 6 then (some (decide ((x165001.length : Int) ≤ 4))) else (some false)) else (some false))
def columbaryref10_Right.l1 : Nat → List ByteArray → Int → Int → List ByteArray → List ByteArray → Option (Bool)
 | 0, _, _, _, _, _ => none
 | k + 1, x3, x4, x6, x165000, x165001 => if x6 < x4 then (if 0 ≤ x6 then (if x6 < (x3.length : Int) then (if 0 ≤ x4 then (if x4 < (x3.length : Int) then (if (rdOf ByteArray.empty x3 x6).toList = (rdOf ByteArray.empty x3 x4).toList then (some false) else (columbaryref10_Right.l1 k x3 x4 (wrap64 (x6 + 1)) x165000 x165001)) else (none)) else (none)) else (none)) else (none)) else (columbaryref10_Right.l0 k x3 (wrap64 (x4 + 1)) x165000 x165001)
end
def columbaryref10_Right.f (k : Nat) (l0_0 : List ByteArray) (l0_1 : List ByteArray) : Option (Bool) := (some (([] : List ByteArray) : List ByteArray)).bind fun y165 => (if y165.length + l0_0.length < 8796093022208 then ((some (y165 ++ l0_0 : List ByteArray)).bind fun y168 => (if y168.length + l0_1.length < 8796093022208 then (columbaryref10_Right.l0 k (y168 ++ l0_1) 0 l0_0 l0_1) else (none))) else (none))
def columbaryref10_Right.T1 : Bool × List (List Nat × List Nat) := (true, [([], []), ([], []), ([1], [1]), ([0, 2], [0, 2]), ([], []), ([4], [4]), ([3, 5, 3], [3, 5]), ([6, 6, 0, 1, 2, 3, 4, 5, 6], [6])])
def columbaryref10_Right.B1 : List Nat := [0, 0, 2, 7, 0, 16, 63, 127]
theorem columbaryref10_Right.tab1 : rtab .any (opsOf Try.f34 1) = columbaryref10_Right.T1 := by kernel_rfl
theorem columbaryref10_Right.bits1 : waitsOk columbaryref10_Right.T1.2 columbaryref10_Right.B1 = true := by kernel_rfl
def columbaryref10_Right.T11 : Bool × List (List Nat × List Nat) := (true, [([], []), ([], []), ([0, 1], [0, 1]), ([2], [2]), ([], []), ([], []), ([4, 5], [4, 5]), ([6], [6]), ([3, 7], [3, 7])])
def columbaryref10_Right.B11 : List Nat := [0, 0, 3, 7, 0, 0, 48, 112, 255]
theorem columbaryref10_Right.tab11 : rtab .any (opsOf Try.f34 11) = columbaryref10_Right.T11 := by kernel_rfl
theorem columbaryref10_Right.bits11 : waitsOk columbaryref10_Right.T11.2 columbaryref10_Right.B11 = true := by kernel_rfl
set_option maxHeartbeats 8000000 in
set_option maxRecDepth 100000 in
theorem columbaryref10_Right.calls (k : Nat) (A0_0 : Option Addr) (c0_0 : Nat) (l0_0 : List ByteArray) (A0_1 : Option Addr) (c0_1 : Nat) (l0_1 : List ByteArray) (r : Bool) (w : World) (hr0_0 : Kd.C Kd.string w A0_0 l0_0.length l0_0) (hc0_0 : l0_0.length ≤ c0_0) (hr0_1 : Kd.C Kd.string w A0_1 l0_1.length l0_1) (hc0_1 : l0_1.length ≤ c0_1) (h : columbaryref10_Right.f k l0_0 l0_1 = some r) :
  Calls Try.prog 34 #[.agg #[.slice A0_0 l0_0.length c0_0, .slice A0_1 l0_1.length c0_1]] w fun e w' => e = .returned (.bool r) ∧ Below w.heap.size w w' := by
 have hu24 := Try.underlying24
 have HR0_0 := Z0.mk hr0_0
 have HC0_0 := Z0.mk hc0_0
 clear hr0_0 hc0_0
 have HR0_1 := Z0.mk hr0_1
 have HC0_1 := Z0.mk hc0_1
 clear hr0_1 hc0_1
 have HB := Z0.mk (Below.refl w.heap.size w)
 have H : ((some (([] : List ByteArray) : List ByteArray)).bind fun y165 => (if y165.length + l0_0.length < 8796093022208 then ((some (y165 ++ l0_0 : List ByteArray)).bind fun y168 => (if y168.length + l0_1.length < 8796093022208 then (columbaryref10_Right.l0 k (y168 ++ l0_1) 0 l0_0 l0_1) else (none))) else (none))) = some r := h
 clear h
 obtain ⟨y165, hy165⟩ : ∃ y_ : List ByteArray, y_ = (([] : List ByteArray)) := ⟨_, rfl⟩
 replace H : (if y165.length + l0_0.length < 8796093022208 then ((some (y165 ++ l0_0 : List ByteArray)).bind fun y168 => (if y168.length + l0_1.length < 8796093022208 then (columbaryref10_Right.l0 k (y168 ++ l0_1) 0 l0_0 l0_1) else (none))) else (none)) = some r := by first | (rw [hy165]; with_reducible exact H) | (have H2_ := (Option.bind_some _ _).symm.trans H; rw [hy165]; with_reducible exact H2_) | (have H2_ := (Option.bind_some _ _).symm.trans H; with_reducible exact H2_) | with_reducible exact H | (rw [hy165]; exact H) | exact H
 have Ny165 := Z0.mk hy165
 clear hy165
 by_cases c2 : y165.length + l0_0.length < 8796093022208
 ·rw [if_pos c2] at H
  have LMc2 := Z0.mk c2
  clear c2
  obtain ⟨y168, hy168⟩ : ∃ y_ : List ByteArray, y_ = (y165 ++ l0_0) := ⟨_, rfl⟩
  replace H : (if y168.length + l0_1.length < 8796093022208 then (columbaryref10_Right.l0 k (y168 ++ l0_1) 0 l0_0 l0_1) else (none)) = some r := by first | (rw [hy168]; with_reducible exact H) | (have H2_ := (Option.bind_some _ _).symm.trans H; rw [hy168]; with_reducible exact H2_) | (have H2_ := (Option.bind_some _ _).symm.trans H; with_reducible exact H2_) | with_reducible exact H | (rw [hy168]; exact H) | exact H
  have Ny168 := Z0.mk hy168
  clear hy168
  by_cases c3 : y168.length + l0_1.length < 8796093022208
  ·rw [if_pos c3] at H
   have LMc3 := Z0.mk c3
   clear c3
   obtain ⟨y171, hy171⟩ : ∃ y_ : List ByteArray, y_ = (y168 ++ l0_1) := ⟨_, rfl⟩
   replace H : (columbaryref10_Right.l0 k y171 0 l0_0 l0_1) = some r := by first | (rw [hy171]; with_reducible exact H) | (have H2_ := (Option.bind_some _ _).symm.trans H; rw [hy171]; with_reducible exact H2_) | (have H2_ := (Option.bind_some _ _).symm.trans H; with_reducible exact H2_) | with_reducible exact H | (rw [hy171]; exact H) | exact H
   have Ny171 := Z0.mk hy171
   clear hy171
   have H' := Z0.mk H
   clear H
   go_enter Try.func34, Try.ntmps34
   try go_wp2_with (first | ((with_reducible refine gate_dst (N := 1) rfl ?_); (try (refine gate_guard (by rfl) ?_; dsimp only)); refine box_event ?hg (N := 1) ?hd (cs := #[.slice A0_0 l0_0.length c0_0, .slice A0_1 l0_1.length c0_1]) (t := 24) ?hr ?_; (case hd => rfl); (case hg => rfl); (case hr => first | (go_simp; done) | (go_simp; rfl)); intro gb164 hg w4 hbox hb; have n0_ := Z0.mk (below_step (by repeat (first | (with_reducible first | exact HB.out | apply beA | apply bpN | apply bd1) | exact HB.out)) hb); have n1_ := Z0.mk (hbox); have n2_ := Z0.mk ((by rw [hg]; exact (below_size (by repeat (first | (with_reducible first | exact HB.out | apply beA | apply bpN | apply bd1) | exact HB.out))) : w.heap.size ≤ gb164)); have n3_ := Z0.mk ((by rw [hg]; exact (below_size (by repeat (first | (with_reducible first | exact HB.out | apply beA | apply bpN | apply bd1) | exact HB.out))) : w.heap.size ≤ gb164)); clear HB; have HB := n0_; have BK164 := n1_; have GW164 := n2_; have GE164 := n3_; clear n0_ n1_ n2_ n3_; clear hb hbox hg))
   have n0_ := Z0.mk (bDr BK164.out)
   have n1_ := Z0.mk (bd1 HB.out)
   clear BK164
   clear HB
   have BK164 := n0_
   have HB := n1_
   clear n0_ n1_
   refine start_ (n := 8) (S := fun w' => w'.cell? ⟨gb164, 0, none⟩ = some (.slice A0_0 l0_0.length c0_0) ∧ w'.cell? ⟨gb164, 1, none⟩ = some (.slice A0_1 l0_1.length c0_1)) (ds := []) #[false, false, false, false, false, false, false, false] (by kernel_rfl) rfl rfl ⟨(bCe BK164.out 0).trans rfl, (bCe BK164.out 1).trans rfl⟩ (fun hHeld => ?_); refine with_tabW columbaryref10_Right.tab1 columbaryref10_Right.bits1 (fun HT_ HW_ => ?_)
   generalize w4.drew = w5 at BK164 HB hHeld ⊢
   refine pure_ (i := 1) (N := some 8) (v := ?_) (a' := ?_) #[false, true, false, false, false, false, false, false] rfl rfl (any_of HT_.out (by kernel_rfl)) (fun _ _ _ h => h) (Or.inl ⟨by rfl, ?_⟩) ?_ ?_
   rotate_left
   ·intro w'
    go_simp
    with_reducible rfl
   rotate_left
   ·simp only [Act.put, qA, qB, qC, i64_w, i32_w]
    rfl
   refine pure_ (i := 4) (N := some 11) (v := ?_) (a' := ?_) #[false, true, false, false, true, false, false, false] rfl rfl (any_of HT_.out (by kernel_rfl)) (fun _ _ _ h => h) (Or.inl ⟨by rfl, ?_⟩) ?_ ?_
   rotate_left
   ·intro w'
    go_simp
    with_reducible rfl
   rotate_left
   ·simp only [Act.put, qA, qB, qC, i64_w, i32_w]
    rfl
   refine take_ (i := 2) (N := some 9) (v := ?_) (a' := ?_) #[false, true, true, false, true, false, false, false] rfl rfl (take_ofW HT_.out HW_.out (by kernel_rfl)) (fun _ _ _ h => h) (Or.inl ⟨by rfl, ?_⟩) hHeld ?_ ?_
   rotate_left
   ·rintro w' ⟨s0, s1⟩
    go_simp
    with_reducible rfl
   rotate_left
   ·simp only [Act.put, qA, qB, qC, i64_w, i32_w]
    rfl
   refine take_ (i := 5) (N := some 12) (v := ?_) (a' := ?_) #[false, true, true, false, true, true, false, false] rfl rfl (take_ofW HT_.out HW_.out (by kernel_rfl)) (fun _ _ _ h => h) (Or.inl ⟨by rfl, ?_⟩) hHeld ?_ ?_
   rotate_left
   ·rintro w' ⟨s0, s1⟩
    go_simp
    with_reducible rfl
   rotate_left
   ·simp only [Act.put, qA, qB, qC, i64_w, i32_w]
    rfl
   refine one_ (i := 0) (N := some 7) #[true, true, true, false, true, true, false, false] rfl rfl (one_of HT_.out (by kernel_rfl)) (by decide) (fun K hK => ?_)
   refine Kd.R_lit_step Kd.string _ 9 ?hg (N := 7) ?hd (xs := ([] : List ByteArray)) (inner := []) (ok := fun _ => True) (okp := fun _ => True) ?hr ?hp (fun _ hk => hk) trivial (Below.refl _ _) (Nat.le_refl _) (by simp) ?_; (case hd => rfl); (case hg => rfl); (case hr => first | (go_simp; done) | (go_simp; rfl)); (case hp => exact (Reps.none _ _))
   intro v166 w6 ho7 hb hg_ hnew_
   clear hg_ hnew_
   (first | rw [← Ny165.out] at ho7 | (simp only [Int.reduceToNat] at ho7; rw [← Ny165.out] at ho7))
   have n0_ := Z0.mk (Kd.R_lower ho7 (below_size (by repeat (first | (with_reducible first | exact HB.out | apply beA | apply bpN | apply bd1 | refine beS ?_ GE164.out) | exact HB.out))))
   have n1_ := Z0.mk (blk_below (g := gb164) (o := .cells #[.slice A0_0 l0_0.length c0_0, .slice A0_1 l0_1.length c0_1] 24 (0, 0)) (by (with_reducible repeat (first | refine bDN ?_ _ | refine bDr ?_ | refine bAl ?_ _)); exact BK164.out) hb)
   have n2_ := Z0.mk (below_step (by repeat (first | (with_reducible first | exact HB.out | apply beA | apply bpN | apply bd1 | refine beS ?_ GE164.out) | exact HB.out)) hb)
   clear BK164
   clear HB
   have HO167 := n0_
   have BK164 := n1_
   have HB := n2_
   clear n0_ n1_ n2_
   clear hb ho7
   refine hK.out _ _ ⟨(bCe BK164.out 0).trans rfl, (bCe BK164.out 1).trans rfl⟩ (fun hHeld => ?_)
   clear hK K
   refine norm_ (a' := ?_) ?_ ?_
   rotate_left
   ·show Act.put _ (some 7) _ = _
    simp only [Act.put, qA, qB, qC, i64_w, i32_w]
    rfl
   refine one_ (i := 3) (N := some 10) #[true, true, true, true, true, true, false, false] rfl rfl (one_of HT_.out (by kernel_rfl)) (by decide) (fun K hK => ?_)
   refine Kd.R_append_rows_step Kd.string (w0 := w) w.heap.size (by rfl) (.tmp 7) (.tmp 9) 22 9 (.string ⟨#[]⟩) 16 rfl Try.underlying22 info9 rfl (by decide) (by omega) v166 y165 l0_0 _ _ _ (fun _ => True) (fun _ => False) rfl rfl ?aO ?aR (fun _ _ h => h) (fun _ h => h.elim) ?aF ?aB ?aS ?aL ?_
   (case aR => repeat (first | exact (Kd.C_below HR0_0.out HB.out) | (with_reducible refine Kd.C_alloc ?_ _) | (with_reducible refine Kd.C_drewN ?_ _) | (with_reducible refine Kd.C_drew ?_)))
   (case aB => exact (by repeat (first | (with_reducible first | exact HB.out | apply beA | apply bpN | apply bd1 | refine beS ?_ GE164.out) | exact HB.out)))
   (case aF => exact (fun _ _ => trivial))
   (case aO => exact (by (with_reducible repeat (first | apply Kd.R_alloc | apply Kd.R_drewN | apply Kd.R_drew)); exact HO167.out))
   (case aS => exact (below_size (by repeat (first | (with_reducible first | exact HB.out | apply beA | apply bpN | apply bd1 | refine beS ?_ GE164.out) | exact HB.out))))
   (case aL => have := LMc2.out; omega)
   intro v169 w8 ho hb hg hat
   rw [← Ny168.out] at ho
   have n0_ := Z0.mk (blk_grown (g := gb164) (o := .cells #[.slice A0_0 l0_0.length c0_0, .slice A0_1 l0_1.length c0_1] 24 (0, 0)) (by (with_reducible repeat (first | refine bDN ?_ _ | refine bDr ?_ | refine bAl ?_ _)); exact BK164.out) hg (Kd.R_ne HO167.out BK164.out (by decide)))
   have n1_ := Z0.mk (hb)
   have n2_ := Z0.mk (ho)
   clear BK164
   clear HB
   clear HO167
   have BK164 := n0_
   have HB := n1_
   have HO170 := n2_
   clear n0_ n1_ n2_
   clear ho hb hg hat
   refine hK.out _ _ ⟨(bCe BK164.out 0).trans rfl, (bCe BK164.out 1).trans rfl⟩ (fun hHeld => ?_)
   clear hK K
   refine norm_ (a' := ?_) ?_ ?_
   rotate_left
   ·show Act.put _ (some 10) _ = _
    simp only [Act.put, qA, qB, qC, i64_w, i32_w]
    rfl
   refine one_ (i := 6) (N := some 13) #[true, true, true, true, true, true, true, false] rfl rfl (one_of HT_.out (by kernel_rfl)) (by decide) (fun K hK => ?_)
   refine Kd.R_append_rows_step Kd.string (w0 := w) w.heap.size (by rfl) (.tmp 10) (.tmp 12) 22 9 (.string ⟨#[]⟩) 16 rfl Try.underlying22 info9 rfl (by decide) (by omega) v169 y168 l0_1 _ _ _ (fun _ => True) (fun _ => False) rfl rfl ?aO ?aR (fun _ _ h => h) (fun _ h => h.elim) ?aF ?aB ?aS ?aL ?_
   (case aR => repeat (first | exact (Kd.C_below HR0_1.out HB.out) | (with_reducible refine Kd.C_alloc ?_ _) | (with_reducible refine Kd.C_drewN ?_ _) | (with_reducible refine Kd.C_drew ?_)))
   (case aB => exact (by repeat (first | (with_reducible first | exact HB.out | apply beA | apply bpN | apply bd1 | refine beS ?_ GE164.out) | exact HB.out)))
   (case aF => exact (fun _ _ => trivial))
   (case aO => exact (by (with_reducible repeat (first | apply Kd.R_alloc | apply Kd.R_drewN | apply Kd.R_drew)); exact HO170.out))
   (case aS => exact (below_size (by repeat (first | (with_reducible first | exact HB.out | apply beA | apply bpN | apply bd1 | refine beS ?_ GE164.out) | exact HB.out))))
   (case aL => have := LMc3.out; omega)
   intro v172 w9 ho hb hg hat
   rw [← Ny171.out] at ho
   have n0_ := Z0.mk (blk_grown (g := gb164) (o := .cells #[.slice A0_0 l0_0.length c0_0, .slice A0_1 l0_1.length c0_1] 24 (0, 0)) (by (with_reducible repeat (first | refine bDN ?_ _ | refine bDr ?_ | refine bAl ?_ _)); exact BK164.out) hg (Kd.R_ne HO170.out BK164.out (by decide)))
   have n1_ := Z0.mk (hb)
   have n2_ := Z0.mk (ho)
   clear BK164
   clear HB
   clear HO170
   have BK164 := n0_
   have HB := n1_
   have HO173 := n2_
   clear n0_ n1_ n2_
   clear ho hb hg hat
   refine hK.out _ _ ⟨(bCe BK164.out 0).trans rfl, (bCe BK164.out 1).trans rfl⟩ (fun hHeld => ?_)
   clear hK K
   refine norm_ (a' := ?_) ?_ ?_
   rotate_left
   ·show Act.put _ (some 13) _ = _
    simp only [Act.put, qA, qB, qC, i64_w, i32_w]
    rfl
   refine pure_ (i := 7) (N := some 3) (v := ?_) (a' := ?_) #[true, true, true, true, true, true, true, true] rfl rfl (any_of HT_.out (by kernel_rfl)) (fun _ _ _ h => h) (Or.inl ⟨by rfl, ?_⟩) ?_ ?_
   rotate_left
   ·intro w'
    go_simp
    with_reducible rfl
   rotate_left
   ·simp only [Act.put, qA, qB, qC, i64_w, i32_w]
    rfl
   refine done_ (done_of HT_.out (by kernel_rfl)) ?_
   try go_wp2
   go_loopg [4] k (fun kq v4 w' => ∃ (x4_1 : Int), v4 = .int .i64 x4_1 ∧ Z0 (columbaryref10_Right.l0 kq y171 x4_1 l0_0 l0_1 = some r) ∧ Z0 (kq ≤ k) ∧ Z0 (Kd.R Kd.string 9 w' w.heap.size (fun _ => True) v172 y171) ∧ Z0 (w'.heap[gb164]? = some (.cells #[(.slice A0_0 l0_0.length c0_0), (.slice A0_1 l0_1.length c0_1)] 24 (0, 0))) ∧ Z0 (Below w.heap.size w w'))
   case atStart => exact ⟨(0), (by first | rfl | (simp; done) | (simp [*]; done)), H', ⟨Nat.le_refl _⟩, ⟨by (with_reducible repeat (first | apply Kd.R_alloc | apply Kd.R_drewN | apply Kd.R_drew)); exact HO173.out⟩, ⟨by (with_reducible repeat (first | refine bDN ?_ _ | refine bDr ?_ | refine bAl ?_ _)); exact BK164.out⟩, ⟨by repeat (first | (with_reducible first | exact HB.out | apply beA | apply bpN | apply bd1 | refine beS ?_ GE164.out) | exact HB.out)⟩⟩
   case round =>
    clear H'
    try clear c2
    try clear p2
    try clear c3
    obtain ⟨x4_1, rfl, HA, HK1, HO_3, BK164, HB⟩ := hrel
    cases gk with
    | zero => exact absurd HA.out (by simp [columbaryref10_Right.l0])
    | succ k1 =>
     have H := HA.out
     clear HA
     simp only [columbaryref10_Right.l0] at H
     by_cases c10 : x4_1 < (y171.length : Int)
     ·rw [if_pos c10] at H
      have c10b0 : decide (x4_1 < (y171.length : Int)) = true := decide_eq_true c10
      clear c10
      by_cases c11 : 0 ≤ x4_1
      ·rw [if_pos c11] at H
       have c11b0 : decide (0 ≤ x4_1) = true := decide_eq_true c11
       clear c11
       replace H := Option.bind_eq_some_iff.mp H
       obtain ⟨t175, A120, H⟩ := H
       replace H : (if t175 = true then (columbaryref10_Right.l1 k1 y171 x4_1 0 l0_0 l0_1) else (some false)) = some r := H
       have A12 := Z0.mk A120
       clear A120
       by_cases c13 : t175 = true
       ·subst c13
        have H1 : (columbaryref10_Right.l1 k1 y171 x4_1 0 l0_0 l0_1) = some r := by rw [if_pos rfl] at H; exact H
        clear H
        have H := H1
        clear H1
        have H' := Z0.mk H
        clear H
        obtain ⟨Ao14, co14, eo14⟩ := Kd.R_slice HO_3.out
        subst eo14
        have p174 : 0 ≤ (x4_1 : Int) := of_decide_eq_true (by first | (with_reducible assumption) | assumption)
        have q174 : x4_1 < (y171.length : Int) := of_decide_eq_true (by first | (with_reducible assumption) | assumption)
        obtain ⟨ad174, e174, hx174_0⟩ := Kd.at_string (Kd.R_reads' HO_3.out).2.2 x4_1 p174 q174
        cases e174
        replace p174 := eq_true p174
        replace q174 := eq_true q174
        go_wp2_with (first | ((with_reducible refine gate_callee (f := 51) rfl ?_); refine goesL_ (some 24) rfl rfl Try.func51 (by kernel_rfl) rfl #[.string (rdOf ByteArray.empty y171 x4_1)] rfl (by (try simp only [List.map_toArray, List.map_cons, List.map_nil]); first | done | rfl | (simp only [List.length_drop, List.length_take]; rfl)) ?_; (with_reducible refine (columbaryref10_Name.calls k1 (rdOf ByteArray.empty y171 x4_1) true _ A12.out).mono ?_); rintro e w15 ⟨rfl, hb⟩; refine ⟨_, rfl, ?_⟩; have n0_ := Z0.mk (Kd.R_below (by (with_reducible repeat (first | apply Kd.R_alloc | apply Kd.R_drewN | apply Kd.R_drew)); exact HO_3.out) hb); have n1_ := Z0.mk (blk_below (g := gb164) (o := .cells #[.slice A0_0 l0_0.length c0_0, .slice A0_1 l0_1.length c0_1] 24 (0, 0)) (by (with_reducible repeat (first | refine bDN ?_ _ | refine bDr ?_ | refine bAl ?_ _)); exact BK164.out) hb); have n2_ := Z0.mk (below_step (by repeat (first | (with_reducible first | exact HB.out | apply beA | apply bpN | apply bd1 | refine beS ?_ GE164.out) | exact HB.out)) hb); clear HO_3; clear BK164; clear HB; have HO_3 := n0_; have BK164 := n1_; have HB := n2_; clear n0_ n1_ n2_; (try clear hb); (try clear hb2); (try clear hk); (try clear hi)))
        go_loopg [6] k1 (fun kq v6 w' => ∃ (x6_2 : Int), v6 = .int .i64 x6_2 ∧ Z0 (columbaryref10_Right.l1 kq y171 x4_1 x6_2 l0_0 l0_1 = some r) ∧ Z0 (kq ≤ k1) ∧ Z0 (Kd.R Kd.string 9 w' w.heap.size (fun _ => True) (.slice (some ad174) y171.length co14) y171) ∧ Z0 (w'.heap[gb164]? = some (.cells #[(.slice A0_0 l0_0.length c0_0), (.slice A0_1 l0_1.length c0_1)] 24 (0, 0))) ∧ Z0 (Below w.heap.size w w'))
        case atStart => exact ⟨(0), (by first | rfl | (simp; done) | (simp [*]; done)), H', ⟨Nat.le_refl _⟩, ⟨by (with_reducible repeat (first | apply Kd.R_alloc | apply Kd.R_drewN | apply Kd.R_drew)); exact HO_3.out⟩, ⟨by (with_reducible repeat (first | refine bDN ?_ _ | refine bDr ?_ | refine bAl ?_ _)); exact BK164.out⟩, ⟨by repeat (first | (with_reducible first | exact HB.out | apply beA | apply bpN | apply bd1 | refine beS ?_ GE164.out) | exact HB.out)⟩⟩
        case round =>
         clear H'
         try clear c1
         try clear p1
         try clear q1
         try clear hx1
         try clear c2
         try clear p2
         try clear c3
         try clear c5
         try clear c10
         try clear c10b0
         try clear c11
         try clear c11b0
         try clear c13
         try clear hx174_0
         try clear p174
         try clear p2
         try clear q174
         obtain ⟨x6_2, rfl, HA, HK2, HO_3, BK164, HB⟩ := hrel
         cases gk with
         | zero => exact absurd HA.out (by simp [columbaryref10_Right.l1])
         | succ k2 =>
          have H := HA.out
          clear HA
          simp only [columbaryref10_Right.l1] at H
          by_cases c16 : x6_2 < x4_1
          ·rw [if_pos c16] at H
           have c16b0 : decide (x6_2 < x4_1) = true := decide_eq_true c16
           clear c16
           by_cases c17 : 0 ≤ x6_2
           ·rw [if_pos c17] at H
            have c17b0 : decide (0 ≤ x6_2) = true := decide_eq_true c17
            clear c17
            by_cases c18 : x6_2 < (y171.length : Int)
            ·rw [if_pos c18] at H
             have c18b0 : decide (x6_2 < (y171.length : Int)) = true := decide_eq_true c18
             clear c18
             by_cases c19 : 0 ≤ x4_1
             ·rw [if_pos c19] at H
              have c19b0 : decide (0 ≤ x4_1) = true := decide_eq_true c19
              clear c19
              by_cases c20 : x4_1 < (y171.length : Int)
              ·rw [if_pos c20] at H
               have c20b0 : decide (x4_1 < (y171.length : Int)) = true := decide_eq_true c20
               clear c20
               by_cases c21 : (rdOf ByteArray.empty y171 x6_2).toList = (rdOf ByteArray.empty y171 x4_1).toList
               ·rw [if_pos c21] at H
                have c21b0 : ((rdOf ByteArray.empty y171 x6_2).toList == (rdOf ByteArray.empty y171 x4_1).toList) = true := beq_iff_eq.mpr c21
                have c21b1 : ((rdOf ByteArray.empty y171 x6_2).toList != (rdOf ByteArray.empty y171 x4_1).toList) = false := bne_eq_false_iff_eq.mpr c21
                clear c21
                obtain rfl := Option.some.inj H
                try go_wp2
                have n0_ := Z0.mk (Kd.R_drew HO_3.out)
                have n1_ := Z0.mk (bDr BK164.out)
                have n2_ := Z0.mk (bd1 HB.out)
                clear HO_3
                clear BK164
                clear HB
                have HO_3 := n0_
                have BK164 := n1_
                have HB := n2_
                clear n0_ n1_ n2_
                have p176 : 0 ≤ (x6_2 : Int) := of_decide_eq_true (by first | (with_reducible assumption) | assumption)
                have q176 : x6_2 < (y171.length : Int) := of_decide_eq_true (by first | (with_reducible assumption) | assumption)
                obtain ⟨ad176, e176, hx176_0⟩ := Kd.at_string (Kd.R_reads' HO_3.out).2.2 x6_2 p176 q176
                obtain rfl : ad174 = ad176 := (by injection e176)
                replace p176 := eq_true p176
                replace q176 := eq_true q176
                have p177 : 0 ≤ (x4_1 : Int) := of_decide_eq_true (by first | (with_reducible assumption) | assumption)
                have q177 : x4_1 < (y171.length : Int) := of_decide_eq_true (by first | (with_reducible assumption) | assumption)
                obtain ⟨ad177, e177, hx177_0⟩ := Kd.at_string (Kd.R_reads' HO_3.out).2.2 x4_1 p177 q177
                obtain rfl : ad174 = ad177 := (by injection e177)
                replace p177 := eq_true p177
                replace q177 := eq_true q177
                refine start_ (n := 9) (S := fun w' => w'.cell? (ad174.add (x6_2).toNat) = some (.string (rdOf ByteArray.empty y171 x6_2)) ∧ w'.cell? (ad174.add (x4_1).toNat) = some (.string (rdOf ByteArray.empty y171 x4_1))) (ds := []) #[false, false, false, false, false, false, false, false, false] (by kernel_rfl) rfl rfl ⟨hx176_0, hx177_0⟩ (fun hHeld => ?_); refine with_tabW columbaryref10_Right.tab11 columbaryref10_Right.bits11 (fun HT_ HW_ => ?_)
                generalize wr.drew = w22 at HO_3 BK164 HB hx176_0 hx177_0 hHeld ⊢
                refine pure_ (i := 0) (N := some 32) (v := ?_) (a' := ?_) #[true, false, false, false, false, false, false, false, false] rfl rfl (any_of HT_.out (by kernel_rfl)) (fun _ _ _ h => h) (Or.inl ⟨by rfl, ?_⟩) ?_ ?_
                rotate_left
                ·intro w'
                 go_simp
                 with_reducible rfl
                rotate_left
                ·simp only [Act.put, qA, qB, qC, i64_w, i32_w]
                 rfl
                refine pure_ (i := 1) (N := some 33) (v := ?_) (a' := ?_) #[true, true, false, false, false, false, false, false, false] rfl rfl (any_of HT_.out (by kernel_rfl)) (fun _ _ _ h => h) (Or.inl ⟨by rfl, ?_⟩) ?_ ?_
                rotate_left
                ·intro w'
                 go_simp
                 with_reducible rfl
                rotate_left
                ·simp only [Act.put, qA, qB, qC, i64_w, i32_w]
                 rfl
                refine pure_ (i := 2) (N := some 34) (v := ?_) (a' := ?_) #[true, true, true, false, false, false, false, false, false] rfl rfl (any_of HT_.out (by kernel_rfl)) (fun _ _ _ h => h) (Or.inl ⟨by rfl, ?_⟩) ?_ ?_
                rotate_left
                ·intro w'
                 go_simp
                 with_reducible rfl
                rotate_left
                ·simp only [Act.put, qA, qB, qC, i64_w, i32_w]
                 rfl
                refine pure_ (i := 4) (N := some 36) (v := ?_) (a' := ?_) #[true, true, true, false, true, false, false, false, false] rfl rfl (any_of HT_.out (by kernel_rfl)) (fun _ _ _ h => h) (Or.inl ⟨by rfl, ?_⟩) ?_ ?_
                rotate_left
                ·intro w'
                 go_simp
                 with_reducible rfl
                rotate_left
                ·simp only [Act.put, qA, qB, qC, i64_w, i32_w]
                 rfl
                refine pure_ (i := 5) (N := some 37) (v := ?_) (a' := ?_) #[true, true, true, false, true, true, false, false, false] rfl rfl (any_of HT_.out (by kernel_rfl)) (fun _ _ _ h => h) (Or.inl ⟨by rfl, ?_⟩) ?_ ?_
                rotate_left
                ·intro w'
                 go_simp
                 with_reducible rfl
                rotate_left
                ·simp only [Act.put, qA, qB, qC, i64_w, i32_w]
                 rfl
                refine pure_ (i := 6) (N := some 38) (v := ?_) (a' := ?_) #[true, true, true, false, true, true, true, false, false] rfl rfl (any_of HT_.out (by kernel_rfl)) (fun _ _ _ h => h) (Or.inl ⟨by rfl, ?_⟩) ?_ ?_
                rotate_left
                ·intro w'
                 go_simp
                 with_reducible rfl
                rotate_left
                ·simp only [Act.put, qA, qB, qC, i64_w, i32_w]
                 rfl
                refine take_ (i := 3) (N := some 35) (v := ?_) (a' := ?_) #[true, true, true, true, true, true, true, false, false] rfl rfl (take_ofW HT_.out HW_.out (by kernel_rfl)) (fun _ _ _ h => h) (Or.inl ⟨by rfl, ?_⟩) hHeld ?_ ?_
                rotate_left
                ·rintro w' ⟨s0, s1⟩
                 go_simp
                 with_reducible rfl
                rotate_left
                ·simp only [Act.put, qA, qB, qC, i64_w, i32_w]
                 rfl
                refine take_ (i := 7) (N := some 39) (v := ?_) (a' := ?_) #[true, true, true, true, true, true, true, true, false] rfl rfl (take_ofW HT_.out HW_.out (by kernel_rfl)) (fun _ _ _ h => h) (Or.inl ⟨by rfl, ?_⟩) hHeld ?_ ?_
                rotate_left
                ·rintro w' ⟨s0, s1⟩
                 go_simp
                 with_reducible rfl
                rotate_left
                ·simp only [Act.put, qA, qB, qC, i64_w, i32_w]
                 rfl
                refine pure_ (i := 8) (N := some 40) (v := ?_) (a' := ?_) #[true, true, true, true, true, true, true, true, true] rfl rfl (any_of HT_.out (by kernel_rfl)) (fun _ _ _ h => h) (Or.inl ⟨by rfl, ?_⟩) ?_ ?_
                rotate_left
                ·intro w'
                 go_simp
                 with_reducible rfl
                rotate_left
                ·simp only [Act.put, qA, qB, qC, i64_w, i32_w]
                 rfl
                refine done_ (done_of HT_.out (by kernel_rfl)) ?_
                try go_wp2
                go_ret
                exact ⟨by first | rfl | (simp [errW_none, errW_some] <;> rfl) | (simp [*, errW_none, errW_some] <;> rfl), by repeat (first | (with_reducible first | exact HB.out | apply beA | apply bpN | apply bd1 | refine beS ?_ GE164.out) | exact HB.out)⟩
               ·rw [if_neg c21] at H
                have c21b0 : ((rdOf ByteArray.empty y171 x6_2).toList == (rdOf ByteArray.empty y171 x4_1).toList) = false := beq_eq_false_iff_ne.mpr c21
                have c21b1 : ((rdOf ByteArray.empty y171 x6_2).toList != (rdOf ByteArray.empty y171 x4_1).toList) = true := bne_iff_ne.mpr c21
                have H' := Z0.mk H
                clear H
                try go_wp2
                have n0_ := Z0.mk (Kd.R_drew HO_3.out)
                have n1_ := Z0.mk (bDr BK164.out)
                have n2_ := Z0.mk (bd1 HB.out)
                clear HO_3
                clear BK164
                clear HB
                have HO_3 := n0_
                have BK164 := n1_
                have HB := n2_
                clear n0_ n1_ n2_
                have p176 : 0 ≤ (x6_2 : Int) := of_decide_eq_true (by first | (with_reducible assumption) | assumption)
                have q176 : x6_2 < (y171.length : Int) := of_decide_eq_true (by first | (with_reducible assumption) | assumption)
                obtain ⟨ad176, e176, hx176_0⟩ := Kd.at_string (Kd.R_reads' HO_3.out).2.2 x6_2 p176 q176
                obtain rfl : ad174 = ad176 := (by injection e176)
                replace p176 := eq_true p176
                replace q176 := eq_true q176
                have p177 : 0 ≤ (x4_1 : Int) := of_decide_eq_true (by first | (with_reducible assumption) | assumption)
                have q177 : x4_1 < (y171.length : Int) := of_decide_eq_true (by first | (with_reducible assumption) | assumption)
                obtain ⟨ad177, e177, hx177_0⟩ := Kd.at_string (Kd.R_reads' HO_3.out).2.2 x4_1 p177 q177
                obtain rfl : ad174 = ad177 := (by injection e177)
                replace p177 := eq_true p177
                replace q177 := eq_true q177
                refine start_ (n := 9) (S := fun w' => w'.cell? (ad174.add (x6_2).toNat) = some (.string (rdOf ByteArray.empty y171 x6_2)) ∧ w'.cell? (ad174.add (x4_1).toNat) = some (.string (rdOf ByteArray.empty y171 x4_1))) (ds := []) #[false, false, false, false, false, false, false, false, false] (by kernel_rfl) rfl rfl ⟨hx176_0, hx177_0⟩ (fun hHeld => ?_); refine with_tabW columbaryref10_Right.tab11 columbaryref10_Right.bits11 (fun HT_ HW_ => ?_)
                generalize wr.drew = w23 at HO_3 BK164 HB hx176_0 hx177_0 hHeld ⊢
                refine pure_ (i := 0) (N := some 32) (v := ?_) (a' := ?_) #[true, false, false, false, false, false, false, false, false] rfl rfl (any_of HT_.out (by kernel_rfl)) (fun _ _ _ h => h) (Or.inl ⟨by rfl, ?_⟩) ?_ ?_
                rotate_left
                ·intro w'
                 go_simp
                 with_reducible rfl
                rotate_left
                ·simp only [Act.put, qA, qB, qC, i64_w, i32_w]
                 rfl
                refine pure_ (i := 1) (N := some 33) (v := ?_) (a' := ?_) #[true, true, false, false, false, false, false, false, false] rfl rfl (any_of HT_.out (by kernel_rfl)) (fun _ _ _ h => h) (Or.inl ⟨by rfl, ?_⟩) ?_ ?_
                rotate_left
                ·intro w'
                 go_simp
                 with_reducible rfl
                rotate_left
                ·simp only [Act.put, qA, qB, qC, i64_w, i32_w]
                 rfl
                refine pure_ (i := 2) (N := some 34) (v := ?_) (a' := ?_) #[true, true, true, false, false, false, false, false, false] rfl rfl (any_of HT_.out (by kernel_rfl)) (fun _ _ _ h => h) (Or.inl ⟨by rfl, ?_⟩) ?_ ?_
                rotate_left
                ·intro w'
                 go_simp
                 with_reducible rfl
                rotate_left
                ·simp only [Act.put, qA, qB, qC, i64_w, i32_w]
                 rfl
                refine pure_ (i := 4) (N := some 36) (v := ?_) (a' := ?_) #[true, true, true, false, true, false, false, false, false] rfl rfl (any_of HT_.out (by kernel_rfl)) (fun _ _ _ h => h) (Or.inl ⟨by rfl, ?_⟩) ?_ ?_
                rotate_left
                ·intro w'
                 go_simp
                 with_reducible rfl
                rotate_left
                ·simp only [Act.put, qA, qB, qC, i64_w, i32_w]
                 rfl
                refine pure_ (i := 5) (N := some 37) (v := ?_) (a' := ?_) #[true, true, true, false, true, true, false, false, false] rfl rfl (any_of HT_.out (by kernel_rfl)) (fun _ _ _ h => h) (Or.inl ⟨by rfl, ?_⟩) ?_ ?_
                rotate_left
                ·intro w'
                 go_simp
                 with_reducible rfl
                rotate_left
                ·simp only [Act.put, qA, qB, qC, i64_w, i32_w]
                 rfl
                refine pure_ (i := 6) (N := some 38) (v := ?_) (a' := ?_) #[true, true, true, false, true, true, true, false, false] rfl rfl (any_of HT_.out (by kernel_rfl)) (fun _ _ _ h => h) (Or.inl ⟨by rfl, ?_⟩) ?_ ?_
                rotate_left
                ·intro w'
                 go_simp
                 with_reducible rfl
                rotate_left
                ·simp only [Act.put, qA, qB, qC, i64_w, i32_w]
                 rfl
                refine take_ (i := 3) (N := some 35) (v := ?_) (a' := ?_) #[true, true, true, true, true, true, true, false, false] rfl rfl (take_ofW HT_.out HW_.out (by kernel_rfl)) (fun _ _ _ h => h) (Or.inl ⟨by rfl, ?_⟩) hHeld ?_ ?_
                rotate_left
                ·rintro w' ⟨s0, s1⟩
                 go_simp
                 with_reducible rfl
                rotate_left
                ·simp only [Act.put, qA, qB, qC, i64_w, i32_w]
                 rfl
                refine take_ (i := 7) (N := some 39) (v := ?_) (a' := ?_) #[true, true, true, true, true, true, true, true, false] rfl rfl (take_ofW HT_.out HW_.out (by kernel_rfl)) (fun _ _ _ h => h) (Or.inl ⟨by rfl, ?_⟩) hHeld ?_ ?_
                rotate_left
                ·rintro w' ⟨s0, s1⟩
                 go_simp
                 with_reducible rfl
                rotate_left
                ·simp only [Act.put, qA, qB, qC, i64_w, i32_w]
                 rfl
                refine pure_ (i := 8) (N := some 40) (v := ?_) (a' := ?_) #[true, true, true, true, true, true, true, true, true] rfl rfl (any_of HT_.out (by kernel_rfl)) (fun _ _ _ h => h) (Or.inl ⟨by rfl, ?_⟩) ?_ ?_
                rotate_left
                ·intro w'
                 go_simp
                 with_reducible rfl
                rotate_left
                ·simp only [Act.put, qA, qB, qC, i64_w, i32_w]
                 rfl
                refine done_ (done_of HT_.out (by kernel_rfl)) ?_
                try go_wp2
                go_roundg k2
                case measure => have := HK1.out; have := HK2.out; omega
                case rel => exact ⟨(wrap64 (x6_2 + 1)), (by first | rfl | (simp; done) | (simp [*]; done)), H', ⟨by have := HK1.out; have := HK2.out; omega⟩, ⟨by (with_reducible repeat (first | apply Kd.R_alloc | apply Kd.R_drewN | apply Kd.R_drew)); exact HO_3.out⟩, ⟨by (with_reducible repeat (first | refine bDN ?_ _ | refine bDr ?_ | refine bAl ?_ _)); exact BK164.out⟩, ⟨by repeat (first | (with_reducible first | exact HB.out | apply beA | apply bpN | apply bd1 | refine beS ?_ GE164.out) | exact HB.out)⟩⟩
              ·rw [if_neg c20] at H
               exact absurd H (by simp)
             ·rw [if_neg c19] at H
              exact absurd H (by simp)
            ·rw [if_neg c18] at H
             exact absurd H (by simp)
           ·rw [if_neg c17] at H
            exact absurd H (by simp)
          ·rw [if_neg c16] at H
           have c16b0 : decide (x6_2 < x4_1) = false := decide_eq_false c16
           clear c16
           have H' := Z0.mk H
           clear H
           go_wp2
           go_roundg k2
           case measure => have := HK1.out; have := HK2.out; omega
           case rel => exact ⟨(wrap64 (x4_1 + 1)), (by first | rfl | (simp; done) | (simp [*]; done)), H', ⟨by have := HK1.out; have := HK2.out; omega⟩, ⟨by (with_reducible repeat (first | apply Kd.R_alloc | apply Kd.R_drewN | apply Kd.R_drew)); exact HO_3.out⟩, ⟨by (with_reducible repeat (first | refine bDN ?_ _ | refine bDr ?_ | refine bAl ?_ _)); exact BK164.out⟩, ⟨by repeat (first | (with_reducible first | exact HB.out | apply beA | apply bpN | apply bd1 | refine beS ?_ GE164.out) | exact HB.out)⟩⟩
       ·replace c13 := Bool.eq_false_iff.mpr c13
        subst c13
        have H1 : (some false) = some r := by rw [if_neg (show ¬ (false = true) by decide)] at H; exact H
        clear H
        have H := H1
        clear H1
        obtain rfl := Option.some.inj H
        obtain ⟨Ao24, co24, eo24⟩ := Kd.R_slice HO_3.out
        subst eo24
        have p174 : 0 ≤ (x4_1 : Int) := of_decide_eq_true (by first | (with_reducible assumption) | assumption)
        have q174 : x4_1 < (y171.length : Int) := of_decide_eq_true (by first | (with_reducible assumption) | assumption)
        obtain ⟨ad174, e174, hx174_0⟩ := Kd.at_string (Kd.R_reads' HO_3.out).2.2 x4_1 p174 q174
        cases e174
        replace p174 := eq_true p174
        replace q174 := eq_true q174
        go_wp2_with (first | ((with_reducible refine gate_callee (f := 51) rfl ?_); refine goesL_ (some 24) rfl rfl Try.func51 (by kernel_rfl) rfl #[.string (rdOf ByteArray.empty y171 x4_1)] rfl (by (try simp only [List.map_toArray, List.map_cons, List.map_nil]); first | done | rfl | (simp only [List.length_drop, List.length_take]; rfl)) ?_; (with_reducible refine (columbaryref10_Name.calls k1 (rdOf ByteArray.empty y171 x4_1) false _ A12.out).mono ?_); rintro e w25 ⟨rfl, hb⟩; refine ⟨_, rfl, ?_⟩; have n0_ := Z0.mk (Kd.R_below (by (with_reducible repeat (first | apply Kd.R_alloc | apply Kd.R_drewN | apply Kd.R_drew)); exact HO_3.out) hb); have n1_ := Z0.mk (blk_below (g := gb164) (o := .cells #[.slice A0_0 l0_0.length c0_0, .slice A0_1 l0_1.length c0_1] 24 (0, 0)) (by (with_reducible repeat (first | refine bDN ?_ _ | refine bDr ?_ | refine bAl ?_ _)); exact BK164.out) hb); have n2_ := Z0.mk (below_step (by repeat (first | (with_reducible first | exact HB.out | apply beA | apply bpN | apply bd1 | refine beS ?_ GE164.out) | exact HB.out)) hb); clear HO_3; clear BK164; clear HB; have HO_3 := n0_; have BK164 := n1_; have HB := n2_; clear n0_ n1_ n2_; (try clear hb); (try clear hb2); (try clear hk); (try clear hi)))
        go_ret
        exact ⟨by first | rfl | (simp [errW_none, errW_some] <;> rfl) | (simp [*, errW_none, errW_some] <;> rfl), by repeat (first | (with_reducible first | exact HB.out | apply beA | apply bpN | apply bd1 | refine beS ?_ GE164.out) | exact HB.out)⟩
      ·rw [if_neg c11] at H
       exact absurd H (by simp)
     ·rw [if_neg c10] at H
      have c10b0 : decide (x4_1 < (y171.length : Int)) = false := decide_eq_false c10
      clear c10
      by_cases c26 : (l0_0.length : Int) ≥ 1
      ·rw [if_pos c26] at H
       have c26b0 : decide (1 ≤ (l0_0.length : Int)) = true := decide_eq_true c26
       have c26b1 : decide (1 ≤ l0_0.length) = true := decide_eq_true (by omega)
       clear c26
       by_cases c27 : (l0_0.length : Int) ≤ 6
       ·rw [if_pos c27] at H
        have c27b0 : decide ((l0_0.length : Int) ≤ 6) = true := decide_eq_true c27
        have c27b1 : decide (l0_0.length ≤ 6) = true := decide_eq_true (by omega)
        clear c27
        obtain rfl := Option.some.inj H
        obtain ⟨Ao28, co28, eo28⟩ := Kd.R_slice HO_3.out
        subst eo28
        have hcz29_0 : wr.cell? ⟨gb164, 0, none⟩ = some (.slice A0_0 l0_0.length c0_0) := (bCe BK164.out 0).trans rfl
        have hcz29_1 : wr.cell? ⟨gb164, 1, none⟩ = some (.slice A0_1 l0_1.length c0_1) := (bCe BK164.out 1).trans rfl
        have hfz29_0 := bFz BK164.out 0
        have hfz29_1 := bFz BK164.out 1
        go_wp2
        go_ret
        exact ⟨by first | rfl | (simp [errW_none, errW_some] <;> rfl) | (simp [*, errW_none, errW_some] <;> rfl), by repeat (first | (with_reducible first | exact HB.out | apply beA | apply bpN | apply bd1 | refine beS ?_ GE164.out) | exact HB.out)⟩
       ·rw [if_neg c27] at H
        have c27b0 : decide ((l0_0.length : Int) ≤ 6) = false := decide_eq_false c27
        have c27b1 : decide (l0_0.length ≤ 6) = false := decide_eq_false (by omega)
        clear c27
        obtain rfl := Option.some.inj H
        obtain ⟨Ao30, co30, eo30⟩ := Kd.R_slice HO_3.out
        subst eo30
        have hcz31_0 : wr.cell? ⟨gb164, 0, none⟩ = some (.slice A0_0 l0_0.length c0_0) := (bCe BK164.out 0).trans rfl
        have hcz31_1 : wr.cell? ⟨gb164, 1, none⟩ = some (.slice A0_1 l0_1.length c0_1) := (bCe BK164.out 1).trans rfl
        have hfz31_0 := bFz BK164.out 0
        have hfz31_1 := bFz BK164.out 1
        go_wp2
        go_ret
        exact ⟨by first | rfl | (simp [errW_none, errW_some] <;> rfl) | (simp [*, errW_none, errW_some] <;> rfl), by repeat (first | (with_reducible first | exact HB.out | apply beA | apply bpN | apply bd1 | refine beS ?_ GE164.out) | exact HB.out)⟩
      ·rw [if_neg c26] at H
       have c26b0 : decide (1 ≤ (l0_0.length : Int)) = false := decide_eq_false c26
       have c26b1 : decide (1 ≤ l0_0.length) = false := decide_eq_false (by omega)
       clear c26
       obtain rfl := Option.some.inj H
       obtain ⟨Ao32, co32, eo32⟩ := Kd.R_slice HO_3.out
       subst eo32
       have hcz33_0 : wr.cell? ⟨gb164, 0, none⟩ = some (.slice A0_0 l0_0.length c0_0) := (bCe BK164.out 0).trans rfl
       have hcz33_1 : wr.cell? ⟨gb164, 1, none⟩ = some (.slice A0_1 l0_1.length c0_1) := (bCe BK164.out 1).trans rfl
       have hfz33_0 := bFz BK164.out 0
       have hfz33_1 := bFz BK164.out 1
       go_wp2
       go_ret
       exact ⟨by first | rfl | (simp [errW_none, errW_some] <;> rfl) | (simp [*, errW_none, errW_some] <;> rfl), by repeat (first | (with_reducible first | exact HB.out | apply beA | apply bpN | apply bd1 | refine beS ?_ GE164.out) | exact HB.out)⟩
  ·rw [if_neg c3] at H
   exact absurd H (by simp)
 ·rw [if_neg c2] at H
  exact absurd H (by simp)
end Go.Proofs.Ytdeeffahfkndkaa.P
namespace Go.Proofs.Ytdeeffahfkndkaa.P
open Go.RowKit Go.Proofs.YtdeeffahfkndkaaW.PrintWords Go.Proofs.YtdeeffahfkndkaaW.PrintLast Go.Proofs.YtdeeffahfkndkaaW.PrintMore
attribute [local go_sem] max2_int min2_int max_two min_two max_three min_three max_four min_four
set_option linter.unusedVariables false
set_option linter.unusedSimpArgs false
def columbaryref10_Value.l0 : Nat → ByteArray → Int → Option (Bool)
 | 0, _, _ => none
 | k + 1, x0, x3 => if x3 < (x0.size : Int) then (if 0 ≤ x3 then (if (bt x0 x3) < 32 then (some false) else (if (bt x0 x3) > 126 then (some false) else (if (bt x0 x3) = 34 then (some false) else (if (bt x0 x3) = 92 then (some false) else (columbaryref10_Value.l0 k x0 (wrap64 (x3 + 1))))))) else (none)) else (some (decide ((x0.size : Int) ≤ 24)))
def columbaryref10_Value.f (k : Nat) (a0 : ByteArray) : Option (Bool) := columbaryref10_Value.l0 k a0 0
set_option maxHeartbeats 8000000 in
set_option maxRecDepth 100000 in
theorem columbaryref10_Value.calls (k : Nat) (a0 : ByteArray) (r : Bool) (w : World) (h : columbaryref10_Value.f k a0 = some r) :
  Calls Try.prog 52 #[.string a0] w fun e w' => e = .returned (.bool r) ∧ Drawn0 w w' := by
 have H : (columbaryref10_Value.l0 k a0 0) = some r := h
 clear h
 have H' := Z0.mk H
 clear H
 go_enter Try.func52, Try.ntmps52
 go_wp2
 go_loopg [3] k (fun kq v3 w' => ∃ (x3_1 : Int), v3 = .int .i64 x3_1 ∧ Z0 (columbaryref10_Value.l0 kq a0 x3_1 = some r) ∧ Z0 (kq ≤ k) ∧ Drawn0 w w')
 case atStart => exact ⟨(0), (by first | rfl | (simp; done) | (simp [*]; done)), H', ⟨Nat.le_refl _⟩, by repeat (first | exact Drawn0.refl _ | apply Drawn0.step)⟩
 case round =>
  clear H'
  obtain ⟨x3_1, rfl, HA, HK1, ⟨m1, rfl⟩⟩ := hrel
  cases gk with
  | zero => exact absurd HA.out (by simp [columbaryref10_Value.l0])
  | succ k1 =>
   have H := HA.out
   clear HA
   simp only [columbaryref10_Value.l0] at H
   by_cases c2 : x3_1 < (a0.size : Int)
   ·rw [if_pos c2] at H
    have c2b0 : decide (x3_1 < (a0.size : Int)) = true := decide_eq_true c2
    clear c2
    by_cases c3 : 0 ≤ x3_1
    ·rw [if_pos c3] at H
     have c3b0 : decide (0 ≤ x3_1) = true := decide_eq_true c3
     clear c3
     by_cases c5 : (bt a0 x3_1) < 32
     ·rw [if_pos c5] at H
      have c5b0 : decide ((bt a0 x3_1) < 32) = true := decide_eq_true c5
      clear c5
      obtain rfl := Option.some.inj H
      have p4 : 0 ≤ (x3_1 : Int) := of_decide_eq_true (by first | (with_reducible assumption) | assumption)
      have q4 : x3_1 < (a0.size : Int) := of_decide_eq_true (by first | (with_reducible assumption) | assumption)
      have hx4 := bt_at a0 x3_1
      replace p4 := eq_true p4
      replace q4 := eq_true q4
      go_wp2
      go_ret
      exact ⟨by first | rfl | (simp; done) | (simp [*]; done), by repeat (first | exact Drawn0.refl _ | apply Drawn0.step)⟩
     ·rw [if_neg c5] at H
      have c5b0 : decide ((bt a0 x3_1) < 32) = false := decide_eq_false c5
      clear c5
      by_cases c7 : (bt a0 x3_1) > 126
      ·rw [if_pos c7] at H
       have c7b0 : decide (126 < (bt a0 x3_1)) = true := decide_eq_true c7
       clear c7
       obtain rfl := Option.some.inj H
       have p4 : 0 ≤ (x3_1 : Int) := of_decide_eq_true (by first | (with_reducible assumption) | assumption)
       have q4 : x3_1 < (a0.size : Int) := of_decide_eq_true (by first | (with_reducible assumption) | assumption)
       have hx4 := bt_at a0 x3_1
       replace p4 := eq_true p4
       replace q4 := eq_true q4
       have p6 : 0 ≤ (x3_1 : Int) := of_decide_eq_true (by first | (with_reducible assumption) | assumption)
       have q6 : x3_1 < (a0.size : Int) := of_decide_eq_true (by first | (with_reducible assumption) | assumption)
       have hx6 := bt_at a0 x3_1
       replace p6 := eq_true p6
       replace q6 := eq_true q6
       go_wp2
       go_ret
       exact ⟨by first | rfl | (simp; done) | (simp [*]; done), by repeat (first | exact Drawn0.refl _ | apply Drawn0.step)⟩
      ·rw [if_neg c7] at H
       have c7b0 : decide (126 < (bt a0 x3_1)) = false := decide_eq_false c7
       clear c7
       by_cases c9 : (bt a0 x3_1) = 34
       ·rw [if_pos c9] at H
        have c9b0 : ((bt a0 x3_1) == 34) = true := beq_iff_eq.mpr c9
        have c9b1 : ((bt a0 x3_1) != 34) = false := bne_eq_false_iff_eq.mpr c9
        clear c9
        obtain rfl := Option.some.inj H
        have p4 : 0 ≤ (x3_1 : Int) := of_decide_eq_true (by first | (with_reducible assumption) | assumption)
        have q4 : x3_1 < (a0.size : Int) := of_decide_eq_true (by first | (with_reducible assumption) | assumption)
        have hx4 := bt_at a0 x3_1
        replace p4 := eq_true p4
        replace q4 := eq_true q4
        have p6 : 0 ≤ (x3_1 : Int) := of_decide_eq_true (by first | (with_reducible assumption) | assumption)
        have q6 : x3_1 < (a0.size : Int) := of_decide_eq_true (by first | (with_reducible assumption) | assumption)
        have hx6 := bt_at a0 x3_1
        replace p6 := eq_true p6
        replace q6 := eq_true q6
        have p8 : 0 ≤ (x3_1 : Int) := of_decide_eq_true (by first | (with_reducible assumption) | assumption)
        have q8 : x3_1 < (a0.size : Int) := of_decide_eq_true (by first | (with_reducible assumption) | assumption)
        have hx8 := bt_at a0 x3_1
        replace p8 := eq_true p8
        replace q8 := eq_true q8
        go_wp2
        go_ret
        exact ⟨by first | rfl | (simp; done) | (simp [*]; done), by repeat (first | exact Drawn0.refl _ | apply Drawn0.step)⟩
       ·rw [if_neg c9] at H
        have c9b0 : ((bt a0 x3_1) == 34) = false := beq_eq_false_iff_ne.mpr c9
        have c9b1 : ((bt a0 x3_1) != 34) = true := bne_iff_ne.mpr c9
        by_cases c11 : (bt a0 x3_1) = 92
        ·rw [if_pos c11] at H
         have c11b0 : ((bt a0 x3_1) == 92) = true := beq_iff_eq.mpr c11
         have c11b1 : ((bt a0 x3_1) != 92) = false := bne_eq_false_iff_eq.mpr c11
         clear c11
         obtain rfl := Option.some.inj H
         have p4 : 0 ≤ (x3_1 : Int) := of_decide_eq_true (by first | (with_reducible assumption) | assumption)
         have q4 : x3_1 < (a0.size : Int) := of_decide_eq_true (by first | (with_reducible assumption) | assumption)
         have hx4 := bt_at a0 x3_1
         replace p4 := eq_true p4
         replace q4 := eq_true q4
         have p6 : 0 ≤ (x3_1 : Int) := of_decide_eq_true (by first | (with_reducible assumption) | assumption)
         have q6 : x3_1 < (a0.size : Int) := of_decide_eq_true (by first | (with_reducible assumption) | assumption)
         have hx6 := bt_at a0 x3_1
         replace p6 := eq_true p6
         replace q6 := eq_true q6
         have p8 : 0 ≤ (x3_1 : Int) := of_decide_eq_true (by first | (with_reducible assumption) | assumption)
         have q8 : x3_1 < (a0.size : Int) := of_decide_eq_true (by first | (with_reducible assumption) | assumption)
         have hx8 := bt_at a0 x3_1
         replace p8 := eq_true p8
         replace q8 := eq_true q8
         have p10 : 0 ≤ (x3_1 : Int) := of_decide_eq_true (by first | (with_reducible assumption) | assumption)
         have q10 : x3_1 < (a0.size : Int) := of_decide_eq_true (by first | (with_reducible assumption) | assumption)
         have hx10 := bt_at a0 x3_1
         replace p10 := eq_true p10
         replace q10 := eq_true q10
         go_wp2
         go_ret
         exact ⟨by first | rfl | (simp; done) | (simp [*]; done), by repeat (first | exact Drawn0.refl _ | apply Drawn0.step)⟩
        ·rw [if_neg c11] at H
         have c11b0 : ((bt a0 x3_1) == 92) = false := beq_eq_false_iff_ne.mpr c11
         have c11b1 : ((bt a0 x3_1) != 92) = true := bne_iff_ne.mpr c11
         have H' := Z0.mk H
         clear H
         have p4 : 0 ≤ (x3_1 : Int) := of_decide_eq_true (by first | (with_reducible assumption) | assumption)
         have q4 : x3_1 < (a0.size : Int) := of_decide_eq_true (by first | (with_reducible assumption) | assumption)
         have hx4 := bt_at a0 x3_1
         replace p4 := eq_true p4
         replace q4 := eq_true q4
         have p6 : 0 ≤ (x3_1 : Int) := of_decide_eq_true (by first | (with_reducible assumption) | assumption)
         have q6 : x3_1 < (a0.size : Int) := of_decide_eq_true (by first | (with_reducible assumption) | assumption)
         have hx6 := bt_at a0 x3_1
         replace p6 := eq_true p6
         replace q6 := eq_true q6
         have p8 : 0 ≤ (x3_1 : Int) := of_decide_eq_true (by first | (with_reducible assumption) | assumption)
         have q8 : x3_1 < (a0.size : Int) := of_decide_eq_true (by first | (with_reducible assumption) | assumption)
         have hx8 := bt_at a0 x3_1
         replace p8 := eq_true p8
         replace q8 := eq_true q8
         have p10 : 0 ≤ (x3_1 : Int) := of_decide_eq_true (by first | (with_reducible assumption) | assumption)
         have q10 : x3_1 < (a0.size : Int) := of_decide_eq_true (by first | (with_reducible assumption) | assumption)
         have hx10 := bt_at a0 x3_1
         replace p10 := eq_true p10
         replace q10 := eq_true q10
         go_wp2
         go_roundg k1
         case measure => have := HK1.out; omega
         case rel => exact ⟨(wrap64 (x3_1 + 1)), (by first | rfl | (simp; done) | (simp [*]; done)), H', ⟨by have := HK1.out; omega⟩, by repeat (first | exact Drawn0.refl _ | apply Drawn0.step)⟩
    ·rw [if_neg c3] at H
     exact absurd H (by simp)
   ·rw [if_neg c2] at H
    have c2b0 : decide (x3_1 < (a0.size : Int)) = false := decide_eq_false c2
    clear c2
    obtain rfl := Option.some.inj H
    go_wp2
    go_ret
    exact ⟨by first | rfl | (simp; done) | (simp [*]; done), by repeat (first | exact Drawn0.refl _ | apply Drawn0.step)⟩
end Go.Proofs.Ytdeeffahfkndkaa.P
namespace Go.Proofs.Ytdeeffahfkndkaa.P
open Go.RowKit Go.Proofs.YtdeeffahfkndkaaW.PrintWords Go.Proofs.YtdeeffahfkndkaaW.PrintLast Go.Proofs.YtdeeffahfkndkaaW.PrintMore
attribute [local go_sem] max2_int min2_int max_two min_two max_three min_three max_four min_four
set_option linter.unusedVariables false
set_option linter.unusedSimpArgs false
def columbaryref12_fits.f (a0 : Int) : Option (Bool) := if a0 ≥ (-4611686018427387904) then (some (decide (a0 ≤ 4611686018427387904))) else (some false)
set_option maxHeartbeats 8000000 in
set_option maxRecDepth 100000 in
theorem columbaryref12_fits.calls (a0 : Int) (r : Bool) (w : World) (h : columbaryref12_fits.f a0 = some r) :
  Calls Try.prog 73 #[.int .i64 a0] w fun e w' => e = .returned (.bool r) ∧ Drawn0 w w' := by
 have H : (if a0 ≥ (-4611686018427387904) then (some (decide (a0 ≤ 4611686018427387904))) else (some false)) = some r := h
 clear h
 by_cases c2 : a0 ≥ (-4611686018427387904)
 ·rw [if_pos c2] at H
  have c2b0 : decide ((-4611686018427387904) ≤ a0) = true := decide_eq_true c2
  clear c2
  obtain rfl := Option.some.inj H
  go_enter Try.func73, Try.ntmps73
  go_wp2
  go_ret
  exact ⟨by first | rfl | (simp; done) | (simp [*]; done), by repeat (first | exact Drawn0.refl _ | apply Drawn0.step)⟩
 ·rw [if_neg c2] at H
  have c2b0 : decide ((-4611686018427387904) ≤ a0) = false := decide_eq_false c2
  clear c2
  obtain rfl := Option.some.inj H
  go_enter Try.func73, Try.ntmps73
  go_wp2
  go_ret
  exact ⟨by first | rfl | (simp; done) | (simp [*]; done), by repeat (first | exact Drawn0.refl _ | apply Drawn0.step)⟩
end Go.Proofs.Ytdeeffahfkndkaa.P
namespace Go.Proofs.Ytdeeffahfkndkaa.P
open Go.RowKit Go.Proofs.YtdeeffahfkndkaaW.PrintWords Go.Proofs.YtdeeffahfkndkaaW.PrintLast Go.Proofs.YtdeeffahfkndkaaW.PrintMore
attribute [local go_sem] max2_int min2_int max_two min_two max_three min_three max_four min_four
set_option linter.unusedVariables false
set_option linter.unusedSimpArgs false
def columbaryref12_Right.f (a0_0 : Int) (a0_1 : Int) (a0_2 : Int) : Option (Bool) := (columbaryref12_fits.f a0_0).bind fun t179 => ((columbaryref12_fits.f a0_1).bind fun t180 => ((columbaryref12_fits.f a0_2).bind fun t181 => (if t179 = true then (if t180 = true then (if t181 = true then (some (decide (a0_1 ≤ a0_2))) else (some false)) else (some false)) else (some false))))
set_option maxHeartbeats 8000000 in
set_option maxRecDepth 100000 in
theorem columbaryref12_Right.calls (a0_0 : Int) (a0_1 : Int) (a0_2 : Int) (r : Bool) (w : World) (h : columbaryref12_Right.f a0_0 a0_1 a0_2 = some r) :
  Calls Try.prog 53 #[.agg #[.int .i64 a0_0, .int .i64 a0_1, .int .i64 a0_2]] w fun e w' => e = .returned (.bool r) ∧ Below w.heap.size w w' := by
 have hu71 := Try.underlying71
 have HB := Z0.mk (Below.refl w.heap.size w)
 have H : ((columbaryref12_fits.f a0_0).bind fun t179 => ((columbaryref12_fits.f a0_1).bind fun t180 => ((columbaryref12_fits.f a0_2).bind fun t181 => (if t179 = true then (if t180 = true then (if t181 = true then (some (decide (a0_1 ≤ a0_2))) else (some false)) else (some false)) else (some false))))) = some r := h
 clear h
 replace H := Option.bind_eq_some_iff.mp H
 obtain ⟨t179, A20, H⟩ := H
 replace H : ((columbaryref12_fits.f a0_1).bind fun t180 => ((columbaryref12_fits.f a0_2).bind fun t181 => (if t179 = true then (if t180 = true then (if t181 = true then (some (decide (a0_1 ≤ a0_2))) else (some false)) else (some false)) else (some false)))) = some r := H
 have A2 := Z0.mk A20
 clear A20
 replace H := Option.bind_eq_some_iff.mp H
 obtain ⟨t180, A30, H⟩ := H
 replace H : ((columbaryref12_fits.f a0_2).bind fun t181 => (if t179 = true then (if t180 = true then (if t181 = true then (some (decide (a0_1 ≤ a0_2))) else (some false)) else (some false)) else (some false))) = some r := H
 have A3 := Z0.mk A30
 clear A30
 replace H := Option.bind_eq_some_iff.mp H
 obtain ⟨t181, A40, H⟩ := H
 replace H : (if t179 = true then (if t180 = true then (if t181 = true then (some (decide (a0_1 ≤ a0_2))) else (some false)) else (some false)) else (some false)) = some r := H
 have A4 := Z0.mk A40
 clear A40
 by_cases c5 : t179 = true
 ·subst c5
  have H1 : (if t180 = true then (if t181 = true then (some (decide (a0_1 ≤ a0_2))) else (some false)) else (some false)) = some r := by rw [if_pos rfl] at H; exact H
  clear H
  have H := H1
  clear H1
  by_cases c6 : t180 = true
  ·subst c6
   have H1 : (if t181 = true then (some (decide (a0_1 ≤ a0_2))) else (some false)) = some r := by rw [if_pos rfl] at H; exact H
   clear H
   have H := H1
   clear H1
   by_cases c7 : t181 = true
   ·subst c7
    have H1 : (some (decide (a0_1 ≤ a0_2))) = some r := by rw [if_pos rfl] at H; exact H
    clear H
    have H := H1
    clear H1
    obtain rfl := Option.some.inj H
    go_enter Try.func53, Try.ntmps53
    go_wp2_with (first | ((with_reducible refine gate_dst (N := 1) rfl ?_); refine box_event ?hg (N := 1) ?hd (cs := #[.int .i64 a0_0, .int .i64 a0_1, .int .i64 a0_2]) (t := 71) ?hr ?_; (case hd => rfl); (case hg => rfl); (case hr => first | (go_simp; done) | (go_simp; rfl)); intro gb178 hg w8 hbox hb; have n0_ := Z0.mk (below_step (by repeat (first | (with_reducible first | exact HB.out | apply beA | apply bpN | apply bd1) | exact HB.out)) hb); have n1_ := Z0.mk (hbox); have n2_ := Z0.mk ((by rw [hg]; exact (below_size (by repeat (first | (with_reducible first | exact HB.out | apply beA | apply bpN | apply bd1) | exact HB.out))) : w.heap.size ≤ gb178)); have n3_ := Z0.mk ((by rw [hg]; exact (below_size (by repeat (first | (with_reducible first | exact HB.out | apply beA | apply bpN | apply bd1) | exact HB.out))) : w.heap.size ≤ gb178)); clear HB; have HB := n0_; have BK178 := n1_; have GW178 := n2_; have GE178 := n3_; clear n0_ n1_ n2_ n3_; clear hb hbox hg; have hcz9_0 : w8.cell? ⟨gb178, 0, none⟩ = some (.int .i64 a0_0) := (bCe BK178.out 0).trans rfl; have hcz9_1 : w8.cell? ⟨gb178, 1, none⟩ = some (.int .i64 a0_1) := (bCe BK178.out 1).trans rfl; have hcz9_2 : w8.cell? ⟨gb178, 2, none⟩ = some (.int .i64 a0_2) := (bCe BK178.out 2).trans rfl; have hfz9_0 := bFz BK178.out 0; have hfz9_1 := bFz BK178.out 1; have hfz9_2 := bFz BK178.out 2) | ((with_reducible refine gate_callee (f := 73) rfl ?_); refine goesL_ (some 8) rfl rfl Try.func73 (by kernel_rfl) rfl #[.int .i64 a0_0] rfl (by (try simp only [List.map_toArray, List.map_cons, List.map_nil]); first | done | rfl | (simp only [List.length_drop, List.length_take]; rfl)) ?_; (with_reducible refine (columbaryref12_fits.calls a0_0 true _ A2.out).mono ?_); rintro e w' ⟨rfl, ⟨nd, rfl⟩⟩; refine ⟨_, rfl, ?_⟩) | ((with_reducible refine gate_callee (f := 73) rfl ?_); refine goesL_ (some 11) rfl rfl Try.func73 (by kernel_rfl) rfl #[.int .i64 a0_1] rfl (by (try simp only [List.map_toArray, List.map_cons, List.map_nil]); first | done | rfl | (simp only [List.length_drop, List.length_take]; rfl)) ?_; (with_reducible refine (columbaryref12_fits.calls a0_1 true _ A3.out).mono ?_); rintro e w' ⟨rfl, ⟨nd, rfl⟩⟩; refine ⟨_, rfl, ?_⟩) | ((with_reducible refine gate_callee (f := 73) rfl ?_); refine goesL_ (some 14) rfl rfl Try.func73 (by kernel_rfl) rfl #[.int .i64 a0_2] rfl (by (try simp only [List.map_toArray, List.map_cons, List.map_nil]); first | done | rfl | (simp only [List.length_drop, List.length_take]; rfl)) ?_; (with_reducible refine (columbaryref12_fits.calls a0_2 true _ A4.out).mono ?_); rintro e w' ⟨rfl, ⟨nd, rfl⟩⟩; refine ⟨_, rfl, ?_⟩))
    go_ret
    exact ⟨by first | rfl | (simp [errW_none, errW_some] <;> rfl) | (simp [*, errW_none, errW_some] <;> rfl), by repeat (first | (with_reducible first | exact HB.out | apply beA | apply bpN | apply bd1 | refine beS ?_ GE178.out) | exact HB.out)⟩
   ·replace c7 := Bool.eq_false_iff.mpr c7
    subst c7
    have H1 : (some false) = some r := by rw [if_neg (show ¬ (false = true) by decide)] at H; exact H
    clear H
    have H := H1
    clear H1
    obtain rfl := Option.some.inj H
    go_enter Try.func53, Try.ntmps53
    go_wp2_with (first | ((with_reducible refine gate_dst (N := 1) rfl ?_); refine box_event ?hg (N := 1) ?hd (cs := #[.int .i64 a0_0, .int .i64 a0_1, .int .i64 a0_2]) (t := 71) ?hr ?_; (case hd => rfl); (case hg => rfl); (case hr => first | (go_simp; done) | (go_simp; rfl)); intro gb178 hg w10 hbox hb; have n0_ := Z0.mk (below_step (by repeat (first | (with_reducible first | exact HB.out | apply beA | apply bpN | apply bd1) | exact HB.out)) hb); have n1_ := Z0.mk (hbox); have n2_ := Z0.mk ((by rw [hg]; exact (below_size (by repeat (first | (with_reducible first | exact HB.out | apply beA | apply bpN | apply bd1) | exact HB.out))) : w.heap.size ≤ gb178)); have n3_ := Z0.mk ((by rw [hg]; exact (below_size (by repeat (first | (with_reducible first | exact HB.out | apply beA | apply bpN | apply bd1) | exact HB.out))) : w.heap.size ≤ gb178)); clear HB; have HB := n0_; have BK178 := n1_; have GW178 := n2_; have GE178 := n3_; clear n0_ n1_ n2_ n3_; clear hb hbox hg; have hcz11_0 : w10.cell? ⟨gb178, 0, none⟩ = some (.int .i64 a0_0) := (bCe BK178.out 0).trans rfl; have hcz11_1 : w10.cell? ⟨gb178, 1, none⟩ = some (.int .i64 a0_1) := (bCe BK178.out 1).trans rfl; have hcz11_2 : w10.cell? ⟨gb178, 2, none⟩ = some (.int .i64 a0_2) := (bCe BK178.out 2).trans rfl; have hfz11_0 := bFz BK178.out 0; have hfz11_1 := bFz BK178.out 1; have hfz11_2 := bFz BK178.out 2) | ((with_reducible refine gate_callee (f := 73) rfl ?_); refine goesL_ (some 8) rfl rfl Try.func73 (by kernel_rfl) rfl #[.int .i64 a0_0] rfl (by (try simp only [List.map_toArray, List.map_cons, List.map_nil]); first | done | rfl | (simp only [List.length_drop, List.length_take]; rfl)) ?_; (with_reducible refine (columbaryref12_fits.calls a0_0 true _ A2.out).mono ?_); rintro e w' ⟨rfl, ⟨nd, rfl⟩⟩; refine ⟨_, rfl, ?_⟩) | ((with_reducible refine gate_callee (f := 73) rfl ?_); refine goesL_ (some 11) rfl rfl Try.func73 (by kernel_rfl) rfl #[.int .i64 a0_1] rfl (by (try simp only [List.map_toArray, List.map_cons, List.map_nil]); first | done | rfl | (simp only [List.length_drop, List.length_take]; rfl)) ?_; (with_reducible refine (columbaryref12_fits.calls a0_1 true _ A3.out).mono ?_); rintro e w' ⟨rfl, ⟨nd, rfl⟩⟩; refine ⟨_, rfl, ?_⟩) | ((with_reducible refine gate_callee (f := 73) rfl ?_); refine goesL_ (some 14) rfl rfl Try.func73 (by kernel_rfl) rfl #[.int .i64 a0_2] rfl (by (try simp only [List.map_toArray, List.map_cons, List.map_nil]); first | done | rfl | (simp only [List.length_drop, List.length_take]; rfl)) ?_; (with_reducible refine (columbaryref12_fits.calls a0_2 false _ A4.out).mono ?_); rintro e w' ⟨rfl, ⟨nd, rfl⟩⟩; refine ⟨_, rfl, ?_⟩))
    go_ret
    exact ⟨by first | rfl | (simp [errW_none, errW_some] <;> rfl) | (simp [*, errW_none, errW_some] <;> rfl), by repeat (first | (with_reducible first | exact HB.out | apply beA | apply bpN | apply bd1 | refine beS ?_ GE178.out) | exact HB.out)⟩
  ·replace c6 := Bool.eq_false_iff.mpr c6
   subst c6
   have H1 : (some false) = some r := by rw [if_neg (show ¬ (false = true) by decide)] at H; exact H
   clear H
   have H := H1
   clear H1
   obtain rfl := Option.some.inj H
   go_enter Try.func53, Try.ntmps53
   go_wp2_with (first | ((with_reducible refine gate_dst (N := 1) rfl ?_); refine box_event ?hg (N := 1) ?hd (cs := #[.int .i64 a0_0, .int .i64 a0_1, .int .i64 a0_2]) (t := 71) ?hr ?_; (case hd => rfl); (case hg => rfl); (case hr => first | (go_simp; done) | (go_simp; rfl)); intro gb178 hg w12 hbox hb; have n0_ := Z0.mk (below_step (by repeat (first | (with_reducible first | exact HB.out | apply beA | apply bpN | apply bd1) | exact HB.out)) hb); have n1_ := Z0.mk (hbox); have n2_ := Z0.mk ((by rw [hg]; exact (below_size (by repeat (first | (with_reducible first | exact HB.out | apply beA | apply bpN | apply bd1) | exact HB.out))) : w.heap.size ≤ gb178)); have n3_ := Z0.mk ((by rw [hg]; exact (below_size (by repeat (first | (with_reducible first | exact HB.out | apply beA | apply bpN | apply bd1) | exact HB.out))) : w.heap.size ≤ gb178)); clear HB; have HB := n0_; have BK178 := n1_; have GW178 := n2_; have GE178 := n3_; clear n0_ n1_ n2_ n3_; clear hb hbox hg; have hcz13_0 : w12.cell? ⟨gb178, 0, none⟩ = some (.int .i64 a0_0) := (bCe BK178.out 0).trans rfl; have hcz13_1 : w12.cell? ⟨gb178, 1, none⟩ = some (.int .i64 a0_1) := (bCe BK178.out 1).trans rfl; have hcz13_2 : w12.cell? ⟨gb178, 2, none⟩ = some (.int .i64 a0_2) := (bCe BK178.out 2).trans rfl; have hfz13_0 := bFz BK178.out 0; have hfz13_1 := bFz BK178.out 1; have hfz13_2 := bFz BK178.out 2) | ((with_reducible refine gate_callee (f := 73) rfl ?_); refine goesL_ (some 8) rfl rfl Try.func73 (by kernel_rfl) rfl #[.int .i64 a0_0] rfl (by (try simp only [List.map_toArray, List.map_cons, List.map_nil]); first | done | rfl | (simp only [List.length_drop, List.length_take]; rfl)) ?_; (with_reducible refine (columbaryref12_fits.calls a0_0 true _ A2.out).mono ?_); rintro e w' ⟨rfl, ⟨nd, rfl⟩⟩; refine ⟨_, rfl, ?_⟩) | ((with_reducible refine gate_callee (f := 73) rfl ?_); refine goesL_ (some 11) rfl rfl Try.func73 (by kernel_rfl) rfl #[.int .i64 a0_1] rfl (by (try simp only [List.map_toArray, List.map_cons, List.map_nil]); first | done | rfl | (simp only [List.length_drop, List.length_take]; rfl)) ?_; (with_reducible refine (columbaryref12_fits.calls a0_1 false _ A3.out).mono ?_); rintro e w' ⟨rfl, ⟨nd, rfl⟩⟩; refine ⟨_, rfl, ?_⟩) | ((with_reducible refine gate_callee (f := 73) rfl ?_); refine goesL_ (some 14) rfl rfl Try.func73 (by kernel_rfl) rfl #[.int .i64 a0_2] rfl (by (try simp only [List.map_toArray, List.map_cons, List.map_nil]); first | done | rfl | (simp only [List.length_drop, List.length_take]; rfl)) ?_; (with_reducible refine (columbaryref12_fits.calls a0_2 t181 _ A4.out).mono ?_); rintro e w' ⟨rfl, ⟨nd, rfl⟩⟩; refine ⟨_, rfl, ?_⟩))
   go_ret
   exact ⟨by first | rfl | (simp [errW_none, errW_some] <;> rfl) | (simp [*, errW_none, errW_some] <;> rfl), by repeat (first | (with_reducible first | exact HB.out | apply beA | apply bpN | apply bd1 | refine beS ?_ GE178.out) | exact HB.out)⟩
 ·replace c5 := Bool.eq_false_iff.mpr c5
  subst c5
  have H1 : (some false) = some r := by rw [if_neg (show ¬ (false = true) by decide)] at H; exact H
  clear H
  have H := H1
  clear H1
  obtain rfl := Option.some.inj H
  go_enter Try.func53, Try.ntmps53
  go_wp2_with (first | ((with_reducible refine gate_dst (N := 1) rfl ?_); refine box_event ?hg (N := 1) ?hd (cs := #[.int .i64 a0_0, .int .i64 a0_1, .int .i64 a0_2]) (t := 71) ?hr ?_; (case hd => rfl); (case hg => rfl); (case hr => first | (go_simp; done) | (go_simp; rfl)); intro gb178 hg w14 hbox hb; have n0_ := Z0.mk (below_step (by repeat (first | (with_reducible first | exact HB.out | apply beA | apply bpN | apply bd1) | exact HB.out)) hb); have n1_ := Z0.mk (hbox); have n2_ := Z0.mk ((by rw [hg]; exact (below_size (by repeat (first | (with_reducible first | exact HB.out | apply beA | apply bpN | apply bd1) | exact HB.out))) : w.heap.size ≤ gb178)); have n3_ := Z0.mk ((by rw [hg]; exact (below_size (by repeat (first | (with_reducible first | exact HB.out | apply beA | apply bpN | apply bd1) | exact HB.out))) : w.heap.size ≤ gb178)); clear HB; have HB := n0_; have BK178 := n1_; have GW178 := n2_; have GE178 := n3_; clear n0_ n1_ n2_ n3_; clear hb hbox hg; have hcz15_0 : w14.cell? ⟨gb178, 0, none⟩ = some (.int .i64 a0_0) := (bCe BK178.out 0).trans rfl; have hcz15_1 : w14.cell? ⟨gb178, 1, none⟩ = some (.int .i64 a0_1) := (bCe BK178.out 1).trans rfl; have hcz15_2 : w14.cell? ⟨gb178, 2, none⟩ = some (.int .i64 a0_2) := (bCe BK178.out 2).trans rfl; have hfz15_0 := bFz BK178.out 0; have hfz15_1 := bFz BK178.out 1; have hfz15_2 := bFz BK178.out 2) | ((with_reducible refine gate_callee (f := 73) rfl ?_); refine goesL_ (some 8) rfl rfl Try.func73 (by kernel_rfl) rfl #[.int .i64 a0_0] rfl (by (try simp only [List.map_toArray, List.map_cons, List.map_nil]); first | done | rfl | (simp only [List.length_drop, List.length_take]; rfl)) ?_; (with_reducible refine (columbaryref12_fits.calls a0_0 false _ A2.out).mono ?_); rintro e w' ⟨rfl, ⟨nd, rfl⟩⟩; refine ⟨_, rfl, ?_⟩) | ((with_reducible refine gate_callee (f := 73) rfl ?_); refine goesL_ (some 11) rfl rfl Try.func73 (by kernel_rfl) rfl #[.int .i64 a0_1] rfl (by (try simp only [List.map_toArray, List.map_cons, List.map_nil]); first | done | rfl | (simp only [List.length_drop, List.length_take]; rfl)) ?_; (with_reducible refine (columbaryref12_fits.calls a0_1 t180 _ A3.out).mono ?_); rintro e w' ⟨rfl, ⟨nd, rfl⟩⟩; refine ⟨_, rfl, ?_⟩) | ((with_reducible refine gate_callee (f := 73) rfl ?_); refine goesL_ (some 14) rfl rfl Try.func73 (by kernel_rfl) rfl #[.int .i64 a0_2] rfl (by (try simp only [List.map_toArray, List.map_cons, List.map_nil]); first | done | rfl | (simp only [List.length_drop, List.length_take]; rfl)) ?_; (with_reducible refine (columbaryref12_fits.calls a0_2 t181 _ A4.out).mono ?_); rintro e w' ⟨rfl, ⟨nd, rfl⟩⟩; refine ⟨_, rfl, ?_⟩))
  go_ret
  exact ⟨by first | rfl | (simp [errW_none, errW_some] <;> rfl) | (simp [*, errW_none, errW_some] <;> rfl), by repeat (first | (with_reducible first | exact HB.out | apply beA | apply bpN | apply bd1 | refine beS ?_ GE178.out) | exact HB.out)⟩
end Go.Proofs.Ytdeeffahfkndkaa.P
namespace Go.Proofs.Ytdeeffahfkndkaa.P
open Go.RowKit Go.Proofs.YtdeeffahfkndkaaW.PrintWords Go.Proofs.YtdeeffahfkndkaaW.PrintLast Go.Proofs.YtdeeffahfkndkaaW.PrintMore
attribute [local go_sem] max2_int min2_int max_two min_two max_three min_three max_four min_four
set_option linter.unusedVariables false
set_option linter.unusedSimpArgs false
mutual
def columbaryref13_Right.j0 : Nat → Bool → Int → List ByteArray → Int → List (S71) → Option (Bool)
 | 0, _, _, _, _, _ => none
 | k + 1, x24, x184000, x184001, x184002, x184003 => if x24 = true then (some false) else (columbaryref13_Right.l0 k 0 x184000 x184001 x184002 x184003)
def columbaryref13_Right.l0 : Nat → Int → Int → List ByteArray → Int → List (S71) → Option (Bool)
 | 0, _, _, _, _, _ => none
 | k + 1, x5, x184000, x184001, x184002, x184003 => if x5 < (x184001.length : Int) then (if 0 ≤ x5 then ((columbaryref10_Value.f k (rdOf ByteArray.empty x184001 x5)).bind fun t185 => (if t185 = true then (columbaryref13_Right.l0 k (wrap64 (x5 + 1)) x184000 x184001 x184002 x184003) else (some false))) else (none)) else (columbaryref13_Right.l1 k 0 x184000 x184001 x184002 x184003)
def columbaryref13_Right.l1 : Nat → Int → Int → List ByteArray → Int → List (S71) → Option (Bool)
 | 0, _, _, _, _, _ => none
 | k + 1, x7, x184000, x184001, x184002, x184003 => if x7 < (x184003.length : Int) then (if 0 ≤ x7 then ((columbaryref12_Right.f ((rd_T71 x184003 x7).f0) ((rd_T71 x184003 x7).f1) ((rd_T71 x184003 x7).f2)).bind fun t187 => (if t187 = true then (columbaryref13_Right.l1 k (wrap64 (x7 + 1)) x184000 x184001 x184002 x184003) else (some false))) else (none)) else (if x184000 ≥ 0 then (if x184000 ≤ 1099511627776 then (if x184002 ≥ 1 then (some (decide (x184002 ≤ 1048576))) else (some false)) else (some false)) else (some false))
end
def columbaryref13_Right.f (k : Nat) (l0_0 : List ByteArray) (l0_1 : List ByteArray) (a1_0 : Int) (l1_1 : List ByteArray) (a1_2 : Int) (l1_3 : List (S71)) : Option (Bool) := if (l1_1.length : Int) = (l0_0.length : Int) then (columbaryref13_Right.j0 k ((l1_3.length : Int) != (l0_1.length : Int)) a1_0 l1_1 a1_2 l1_3) else (columbaryref13_Right.j0 k true a1_0 l1_1 a1_2 l1_3)
set_option maxHeartbeats 8000000 in
set_option maxRecDepth 100000 in
theorem columbaryref13_Right.calls (k : Nat) (A0_0 : Option Addr) (c0_0 : Nat) (l0_0 : List ByteArray) (A0_1 : Option Addr) (c0_1 : Nat) (l0_1 : List ByteArray) (a1_0 : Int) (A1_1 : Option Addr) (c1_1 : Nat) (l1_1 : List ByteArray) (a1_2 : Int) (A1_3 : Option Addr) (c1_3 : Nat) (l1_3 : List (S71)) (r : Bool) (w : World) (hr0_0 : Kd.C Kd.string w A0_0 l0_0.length l0_0) (hc0_0 : l0_0.length ≤ c0_0) (hr0_1 : Kd.C Kd.string w A0_1 l0_1.length l0_1) (hc0_1 : l0_1.length ≤ c0_1) (hr1_1 : Kd.C Kd.string w A1_1 l1_1.length l1_1) (hc1_1 : l1_1.length ≤ c1_1) (hr1_3 : Kd.C k71 w A1_3 l1_3.length l1_3) (hc1_3 : l1_3.length ≤ c1_3) (h : columbaryref13_Right.f k l0_0 l0_1 a1_0 l1_1 a1_2 l1_3 = some r) :
  Calls Try.prog 35 #[.agg #[.slice A0_0 l0_0.length c0_0, .slice A0_1 l0_1.length c0_1], .agg #[.int .i64 a1_0, .slice A1_1 l1_1.length c1_1, .int .i64 a1_2, .slice A1_3 l1_3.length c1_3]] w fun e w' => e = .returned (.bool r) ∧ Below w.heap.size w w' := by
 have hu24 := Try.underlying24
 have hu39 := Try.underlying39
 have hu71 := Try.underlying71
 have HR0_0 := Z0.mk hr0_0
 have HC0_0 := Z0.mk hc0_0
 clear hr0_0 hc0_0
 have HR0_1 := Z0.mk hr0_1
 have HC0_1 := Z0.mk hc0_1
 clear hr0_1 hc0_1
 have HR1_1 := Z0.mk hr1_1
 have HC1_1 := Z0.mk hc1_1
 clear hr1_1 hc1_1
 have HR1_3 := Z0.mk hr1_3
 have HC1_3 := Z0.mk hc1_3
 clear hr1_3 hc1_3
 have HB := Z0.mk (Below.refl w.heap.size w)
 have H : (if (l1_1.length : Int) = (l0_0.length : Int) then (columbaryref13_Right.j0 k ((l1_3.length : Int) != (l0_1.length : Int)) a1_0 l1_1 a1_2 l1_3) else (columbaryref13_Right.j0 k true a1_0 l1_1 a1_2 l1_3)) = some r := h
 clear h
 have HC3 := Z0.mk H
 clear H
 go_enter Try.func35, Try.ntmps35
 go_upto_region 1 with (first | ((with_reducible refine gate_dst (N := 2) rfl ?_); (try (refine gate_guard (by rfl) ?_; dsimp only)); refine box_event ?hg (N := 2) ?hd (cs := #[.slice A0_0 l0_0.length c0_0, .slice A0_1 l0_1.length c0_1]) (t := 24) ?hr ?_; (case hd => rfl); (case hg => rfl); (case hr => first | (go_simp; done) | (go_simp; rfl)); intro gb182 hg w4 hbox hb; have n0_ := Z0.mk (below_step (by repeat (first | (with_reducible first | exact HB.out | apply beA | apply bpN | apply bd1) | exact HB.out)) hb); have n1_ := Z0.mk (hbox); have n2_ := Z0.mk ((by rw [hg]; exact (below_size (by repeat (first | (with_reducible first | exact HB.out | apply beA | apply bpN | apply bd1) | exact HB.out))) : w.heap.size ≤ gb182)); have n3_ := Z0.mk ((by rw [hg]; exact (below_size (by repeat (first | (with_reducible first | exact HB.out | apply beA | apply bpN | apply bd1) | exact HB.out))) : w.heap.size ≤ gb182)); clear HB; have HB := n0_; have BK182 := n1_; have GW182 := n2_; have GE182 := n3_; clear n0_ n1_ n2_ n3_; clear hb hbox hg) | ((with_reducible refine gate_dst (N := 3) rfl ?_); (try (refine gate_guard (by rfl) ?_; dsimp only)); refine box_event ?hg (N := 3) ?hd (cs := #[.int .i64 a1_0, .slice A1_1 l1_1.length c1_1, .int .i64 a1_2, .slice A1_3 l1_3.length c1_3]) (t := 39) ?hr ?_; (case hd => rfl); (case hg => rfl); (case hr => first | (go_simp; done) | (go_simp; rfl)); intro gb183 hg w5 hbox hb; have n0_ := Z0.mk (blk_below (g := gb182) (o := .cells #[.slice A0_0 l0_0.length c0_0, .slice A0_1 l0_1.length c0_1] 24 (0, 0)) (by (with_reducible repeat (first | refine bDN ?_ _ | refine bDr ?_ | refine bAl ?_ _)); exact BK182.out) hb); have n1_ := Z0.mk (below_step (by repeat (first | (with_reducible first | exact HB.out | apply beA | apply bpN | apply bd1 | refine beS ?_ GE182.out) | exact HB.out)) hb); have n2_ := Z0.mk (hbox); have n3_ := Z0.mk ((by rw [hg]; exact (below_size (by repeat (first | (with_reducible first | exact HB.out | apply beA | apply bpN | apply bd1 | refine beS ?_ GE182.out) | exact HB.out))) : w.heap.size ≤ gb183)); have n4_ := Z0.mk ((by rw [hg]; exact (below_size (by repeat (first | (with_reducible first | exact HB.out | apply beA | apply bpN | apply bd1 | refine beS ?_ GE182.out) | exact HB.out))) : w.heap.size ≤ gb183)); have n5_ := Z0.mk ((by rw [hg]; exact Nat.ne_of_lt (blk_lt (g := gb182) (o := .cells #[.slice A0_0 l0_0.length c0_0, .slice A0_1 l0_1.length c0_1] 24 (0, 0)) (by (with_reducible repeat (first | refine bDN ?_ _ | refine bDr ?_ | refine bAl ?_ _)); exact BK182.out)) : gb182 ≠ gb183)); have n6_ := Z0.mk ((by rw [hg]; exact Nat.ne_of_gt (blk_lt (g := gb182) (o := .cells #[.slice A0_0 l0_0.length c0_0, .slice A0_1 l0_1.length c0_1] 24 (0, 0)) (by (with_reducible repeat (first | refine bDN ?_ _ | refine bDr ?_ | refine bAl ?_ _)); exact BK182.out)) : gb183 ≠ gb182)); clear BK182; clear HB; have BK182 := n0_; have HB := n1_; have BK183 := n2_; have GW183 := n3_; have GE183 := n4_; have NB182_183 := n5_; have NB183_182 := n6_; clear n0_ n1_ n2_ n3_ n4_ n5_ n6_; clear hb hbox hg))
 (try simp only [Act.put, qA, qB, qC])
 go_cut [24] (fun v24 wc => ∃ (kq : Nat) (x24_2 : Bool), v24 = .bool x24_2 ∧ Z0 (columbaryref13_Right.j0 kq x24_2 a1_0 l1_1 a1_2 l1_3 = some r) ∧ Z0 (kq ≤ k) ∧ Z0 (wc.heap[gb182]? = some (.cells #[(.slice A0_0 l0_0.length c0_0), (.slice A0_1 l0_1.length c0_1)] 24 (0, 0))) ∧ Z0 (wc.heap[gb183]? = some (.cells #[.int .i64 a1_0, (.slice A1_1 l1_1.length c1_1), .int .i64 a1_2, (.slice A1_3 l1_3.length c1_3)] 39 (0, 0))) ∧ Z0 (Below w.heap.size w wc))
 case first =>
  have H := HC3.out
  clear HC3
  by_cases c6 : (l1_1.length : Int) = (l0_0.length : Int)
  ·rw [if_pos c6] at H
   have c6b0 : ((l1_1.length : Int) == (l0_0.length : Int)) = true := beq_iff_eq.mpr c6
   have c6b1 : ((l1_1.length : Int) != (l0_0.length : Int)) = false := bne_eq_false_iff_eq.mpr c6
   have c6b2 : (l1_1.length == l0_0.length) = true := by first | simpa using c6 | (simp at c6 ⊢; omega)
   clear c6
   (first | rw [c6b0] | (simp only [i64_w, i32_w]; rw [c6b0]) | skip)
   have H' := Z0.mk H
   clear H
   have hnb7 := NB183_182.out
   have hnc7 := NB182_183.out
   have hcz8_0 : w5.cell? ⟨gb183, 0, none⟩ = some (.int .i64 a1_0) := (bCe BK183.out 0).trans rfl
   have hcz8_1 : w5.cell? ⟨gb183, 1, none⟩ = some (.slice A1_1 l1_1.length c1_1) := (bCe BK183.out 1).trans rfl
   have hcz8_2 : w5.cell? ⟨gb183, 2, none⟩ = some (.int .i64 a1_2) := (bCe BK183.out 2).trans rfl
   have hcz8_3 : w5.cell? ⟨gb183, 3, none⟩ = some (.slice A1_3 l1_3.length c1_3) := (bCe BK183.out 3).trans rfl
   have hfz8_0 := bFz BK183.out 0
   have hfz8_1 := bFz BK183.out 1
   have hfz8_2 := bFz BK183.out 2
   have hfz8_3 := bFz BK183.out 3
   have hcz9_0 : w5.cell? ⟨gb182, 0, none⟩ = some (.slice A0_0 l0_0.length c0_0) := (bCe BK182.out 0).trans rfl
   have hcz9_1 : w5.cell? ⟨gb182, 1, none⟩ = some (.slice A0_1 l0_1.length c0_1) := (bCe BK182.out 1).trans rfl
   have hfz9_0 := bFz BK182.out 0
   have hfz9_1 := bFz BK182.out 1
   go_wp2
   go_meet
   case rel => exact ⟨_, (((l1_3.length : Int) != (l0_1.length : Int))), (by first | rfl | (simp; done) | (simp [*]; done)), H', ⟨by first | omega | exact Nat.le_refl _⟩, ⟨by (with_reducible repeat (first | refine bDN ?_ _ | refine bDr ?_ | refine bAl ?_ _)); exact BK182.out⟩, ⟨by (with_reducible repeat (first | refine bDN ?_ _ | refine bDr ?_ | refine bAl ?_ _)); exact BK183.out⟩, ⟨by repeat (first | (with_reducible first | exact HB.out | apply beA | apply bpN | apply bd1 | refine beS ?_ GE182.out | refine beS ?_ GE183.out) | exact HB.out)⟩⟩
  ·rw [if_neg c6] at H
   have c6b0 : ((l1_1.length : Int) == (l0_0.length : Int)) = false := beq_eq_false_iff_ne.mpr c6
   have c6b1 : ((l1_1.length : Int) != (l0_0.length : Int)) = true := bne_iff_ne.mpr c6
   have c6b2 : (l1_1.length == l0_0.length) = false := by first | simpa using c6 | (simp at c6 ⊢; omega)
   (first | rw [c6b0] | (simp only [i64_w, i32_w]; rw [c6b0]) | skip)
   have H' := Z0.mk H
   clear H
   have hnb10 := NB183_182.out
   have hnc10 := NB182_183.out
   have hcz11_0 : w5.cell? ⟨gb183, 0, none⟩ = some (.int .i64 a1_0) := (bCe BK183.out 0).trans rfl
   have hcz11_1 : w5.cell? ⟨gb183, 1, none⟩ = some (.slice A1_1 l1_1.length c1_1) := (bCe BK183.out 1).trans rfl
   have hcz11_2 : w5.cell? ⟨gb183, 2, none⟩ = some (.int .i64 a1_2) := (bCe BK183.out 2).trans rfl
   have hcz11_3 : w5.cell? ⟨gb183, 3, none⟩ = some (.slice A1_3 l1_3.length c1_3) := (bCe BK183.out 3).trans rfl
   have hfz11_0 := bFz BK183.out 0
   have hfz11_1 := bFz BK183.out 1
   have hfz11_2 := bFz BK183.out 2
   have hfz11_3 := bFz BK183.out 3
   have hcz12_0 : w5.cell? ⟨gb182, 0, none⟩ = some (.slice A0_0 l0_0.length c0_0) := (bCe BK182.out 0).trans rfl
   have hcz12_1 : w5.cell? ⟨gb182, 1, none⟩ = some (.slice A0_1 l0_1.length c0_1) := (bCe BK182.out 1).trans rfl
   have hfz12_0 := bFz BK182.out 0
   have hfz12_1 := bFz BK182.out 1
   go_wp2
   go_meet
   case rel => exact ⟨_, (true), (by first | rfl | (simp; done) | (simp [*]; done)), H', ⟨by first | omega | exact Nat.le_refl _⟩, ⟨by (with_reducible repeat (first | refine bDN ?_ _ | refine bDr ?_ | refine bAl ?_ _)); exact BK182.out⟩, ⟨by (with_reducible repeat (first | refine bDN ?_ _ | refine bDr ?_ | refine bAl ?_ _)); exact BK183.out⟩, ⟨by repeat (first | (with_reducible first | exact HB.out | apply beA | apply bpN | apply bd1 | refine beS ?_ GE182.out | refine beS ?_ GE183.out) | exact HB.out)⟩⟩
 case rest =>
  clear HC3
  try clear c1
  try clear p2
  try clear c3
  try clear c6
  try clear c6b0
  try clear c6b1
  try clear c6b2
  try clear c7
  try clear c10
  try clear hcz11_0
  try clear hcz11_1
  try clear hcz11_2
  try clear hcz11_3
  try clear hcz12_0
  try clear hcz12_1
  try clear hcz8_0
  try clear hcz8_1
  try clear hcz8_2
  try clear hcz8_3
  try clear hcz9_0
  try clear hcz9_1
  try clear hfz11_0
  try clear hfz11_1
  try clear hfz11_2
  try clear hfz11_3
  try clear hfz12_0
  try clear hfz12_1
  try clear hfz8_0
  try clear hfz8_1
  try clear hfz8_2
  try clear hfz8_3
  try clear hfz9_0
  try clear hfz9_1
  obtain ⟨kq, x24_2, rfl, HA, HJ2, BK182, BK183, HB⟩ := hcut
  cases kq with
  | zero => exact absurd HA.out (by simp [columbaryref13_Right.j0])
  | succ kj2 =>
   have H := HA.out
   clear HA
   simp only [columbaryref13_Right.j0] at H
   by_cases c13 : x24_2 = true
   ·subst c13
    have H1 : (some false) = some r := by rw [if_pos rfl] at H; exact H
    clear H
    have H := H1
    clear H1
    obtain rfl := Option.some.inj H
    go_wp2
    go_ret
    exact ⟨by first | rfl | (simp [errW_none, errW_some] <;> rfl) | (simp [*, errW_none, errW_some] <;> rfl), by repeat (first | (with_reducible first | exact HB.out | apply beA | apply bpN | apply bd1 | refine beS ?_ GE182.out | refine beS ?_ GE183.out) | exact HB.out)⟩
   ·replace c13 := Bool.eq_false_iff.mpr c13
    subst c13
    have H1 : (columbaryref13_Right.l0 kj2 0 a1_0 l1_1 a1_2 l1_3) = some r := by rw [if_neg (show ¬ (false = true) by decide)] at H; exact H
    clear H
    have H := H1
    clear H1
    have H' := Z0.mk H
    clear H
    go_wp2
    go_loopg [5] kj2 (fun kq v5 w' => ∃ (x5_2 : Int), v5 = .int .i64 x5_2 ∧ Z0 (columbaryref13_Right.l0 kq x5_2 a1_0 l1_1 a1_2 l1_3 = some r) ∧ Z0 (kq ≤ kj2) ∧ Z0 (w'.heap[gb182]? = some (.cells #[(.slice A0_0 l0_0.length c0_0), (.slice A0_1 l0_1.length c0_1)] 24 (0, 0))) ∧ Z0 (w'.heap[gb183]? = some (.cells #[.int .i64 a1_0, (.slice A1_1 l1_1.length c1_1), .int .i64 a1_2, (.slice A1_3 l1_3.length c1_3)] 39 (0, 0))) ∧ Z0 (Below w.heap.size w w'))
    case atStart => exact ⟨(0), (by first | rfl | (simp; done) | (simp [*]; done)), H', ⟨Nat.le_refl _⟩, ⟨by (with_reducible repeat (first | refine bDN ?_ _ | refine bDr ?_ | refine bAl ?_ _)); exact BK182.out⟩, ⟨by (with_reducible repeat (first | refine bDN ?_ _ | refine bDr ?_ | refine bAl ?_ _)); exact BK183.out⟩, ⟨by repeat (first | (with_reducible first | exact HB.out | apply beA | apply bpN | apply bd1 | refine beS ?_ GE182.out | refine beS ?_ GE183.out) | exact HB.out)⟩⟩
    case round =>
     clear H'
     try clear c1
     try clear p2
     try clear c3
     try clear c6
     try clear c6b0
     try clear c6b1
     try clear c6b2
     try clear c7
     try clear c10
     try clear c13
     try clear hcz11_0
     try clear hcz11_1
     try clear hcz11_2
     try clear hcz11_3
     try clear hcz12_0
     try clear hcz12_1
     try clear hcz8_0
     try clear hcz8_1
     try clear hcz8_2
     try clear hcz8_3
     try clear hcz9_0
     try clear hcz9_1
     try clear hfz11_0
     try clear hfz11_1
     try clear hfz11_2
     try clear hfz11_3
     try clear hfz12_0
     try clear hfz12_1
     try clear hfz8_0
     try clear hfz8_1
     try clear hfz8_2
     try clear hfz8_3
     try clear hfz9_0
     try clear hfz9_1
     try clear p2
     obtain ⟨x5_2, rfl, HA, HK2, BK182, BK183, HB⟩ := hrel
     cases gk with
     | zero => exact absurd HA.out (by simp [columbaryref13_Right.l0])
     | succ k2 =>
      have H := HA.out
      clear HA
      simp only [columbaryref13_Right.l0] at H
      by_cases c14 : x5_2 < (l1_1.length : Int)
      ·rw [if_pos c14] at H
       have c14b0 : decide (x5_2 < (l1_1.length : Int)) = true := decide_eq_true c14
       clear c14
       by_cases c15 : 0 ≤ x5_2
       ·rw [if_pos c15] at H
        have c15b0 : decide (0 ≤ x5_2) = true := decide_eq_true c15
        clear c15
        replace H := Option.bind_eq_some_iff.mp H
        obtain ⟨t185, A160, H⟩ := H
        replace H : (if t185 = true then (columbaryref13_Right.l0 k2 (wrap64 (x5_2 + 1)) a1_0 l1_1 a1_2 l1_3) else (some false)) = some r := H
        have A16 := Z0.mk A160
        clear A160
        by_cases c17 : t185 = true
        ·subst c17
         have H1 : (columbaryref13_Right.l0 k2 (wrap64 (x5_2 + 1)) a1_0 l1_1 a1_2 l1_3) = some r := by rw [if_pos rfl] at H; exact H
         clear H
         have H := H1
         clear H1
         have H' := Z0.mk H
         clear H
         have hnb18 := NB183_182.out
         have hnc18 := NB182_183.out
         have hcz19_0 : wr.cell? ⟨gb183, 0, none⟩ = some (.int .i64 a1_0) := (bCe BK183.out 0).trans rfl
         have hcz19_1 : wr.cell? ⟨gb183, 1, none⟩ = some (.slice A1_1 l1_1.length c1_1) := (bCe BK183.out 1).trans rfl
         have hcz19_2 : wr.cell? ⟨gb183, 2, none⟩ = some (.int .i64 a1_2) := (bCe BK183.out 2).trans rfl
         have hcz19_3 : wr.cell? ⟨gb183, 3, none⟩ = some (.slice A1_3 l1_3.length c1_3) := (bCe BK183.out 3).trans rfl
         have hfz19_0 := bFz BK183.out 0
         have hfz19_1 := bFz BK183.out 1
         have hfz19_2 := bFz BK183.out 2
         have hfz19_3 := bFz BK183.out 3
         have p184 : 0 ≤ (x5_2 : Int) := of_decide_eq_true (by first | (with_reducible assumption) | assumption)
         have q184 : x5_2 < (l1_1.length : Int) := of_decide_eq_true (by first | (with_reducible assumption) | assumption)
         obtain ⟨ad184, e184, hx184_0⟩ := Kd.at_string HR1_1.out x5_2 p184 q184
         cases e184
         replace hx184_0 := (HB.out.cell (World.block_lt_of_cell? w _ hx184_0)).trans hx184_0
         replace p184 := eq_true p184
         replace q184 := eq_true q184
         go_wp2_with (first | ((with_reducible refine gate_callee (f := 52) rfl ?_); refine goesL_ (some 37) rfl rfl Try.func52 (by kernel_rfl) rfl #[.string (rdOf ByteArray.empty l1_1 x5_2)] rfl (by (try simp only [List.map_toArray, List.map_cons, List.map_nil]); first | done | rfl | (simp only [List.length_drop, List.length_take]; rfl)) ?_; (with_reducible refine (columbaryref10_Value.calls k2 (rdOf ByteArray.empty l1_1 x5_2) true _ A16.out).mono ?_); rintro e w' ⟨rfl, ⟨nd, rfl⟩⟩; refine ⟨_, rfl, ?_⟩))
         go_roundg k2
         case measure => have := HJ2.out; have := HK2.out; omega
         case rel => exact ⟨(wrap64 (x5_2 + 1)), (by first | rfl | (simp; done) | (simp [*]; done)), H', ⟨by have := HJ2.out; have := HK2.out; omega⟩, ⟨by (with_reducible repeat (first | refine bDN ?_ _ | refine bDr ?_ | refine bAl ?_ _)); exact BK182.out⟩, ⟨by (with_reducible repeat (first | refine bDN ?_ _ | refine bDr ?_ | refine bAl ?_ _)); exact BK183.out⟩, ⟨by repeat (first | (with_reducible first | exact HB.out | apply beA | apply bpN | apply bd1 | refine beS ?_ GE182.out | refine beS ?_ GE183.out) | exact HB.out)⟩⟩
        ·replace c17 := Bool.eq_false_iff.mpr c17
         subst c17
         have H1 : (some false) = some r := by rw [if_neg (show ¬ (false = true) by decide)] at H; exact H
         clear H
         have H := H1
         clear H1
         obtain rfl := Option.some.inj H
         have hnb20 := NB183_182.out
         have hnc20 := NB182_183.out
         have hcz21_0 : wr.cell? ⟨gb183, 0, none⟩ = some (.int .i64 a1_0) := (bCe BK183.out 0).trans rfl
         have hcz21_1 : wr.cell? ⟨gb183, 1, none⟩ = some (.slice A1_1 l1_1.length c1_1) := (bCe BK183.out 1).trans rfl
         have hcz21_2 : wr.cell? ⟨gb183, 2, none⟩ = some (.int .i64 a1_2) := (bCe BK183.out 2).trans rfl
         have hcz21_3 : wr.cell? ⟨gb183, 3, none⟩ = some (.slice A1_3 l1_3.length c1_3) := (bCe BK183.out 3).trans rfl
         have hfz21_0 := bFz BK183.out 0
         have hfz21_1 := bFz BK183.out 1
         have hfz21_2 := bFz BK183.out 2
         have hfz21_3 := bFz BK183.out 3
         have p184 : 0 ≤ (x5_2 : Int) := of_decide_eq_true (by first | (with_reducible assumption) | assumption)
         have q184 : x5_2 < (l1_1.length : Int) := of_decide_eq_true (by first | (with_reducible assumption) | assumption)
         obtain ⟨ad184, e184, hx184_0⟩ := Kd.at_string HR1_1.out x5_2 p184 q184
         cases e184
         replace hx184_0 := (HB.out.cell (World.block_lt_of_cell? w _ hx184_0)).trans hx184_0
         replace p184 := eq_true p184
         replace q184 := eq_true q184
         go_wp2_with (first | ((with_reducible refine gate_callee (f := 52) rfl ?_); refine goesL_ (some 37) rfl rfl Try.func52 (by kernel_rfl) rfl #[.string (rdOf ByteArray.empty l1_1 x5_2)] rfl (by (try simp only [List.map_toArray, List.map_cons, List.map_nil]); first | done | rfl | (simp only [List.length_drop, List.length_take]; rfl)) ?_; (with_reducible refine (columbaryref10_Value.calls k2 (rdOf ByteArray.empty l1_1 x5_2) false _ A16.out).mono ?_); rintro e w' ⟨rfl, ⟨nd, rfl⟩⟩; refine ⟨_, rfl, ?_⟩))
         go_ret
         exact ⟨by first | rfl | (simp [errW_none, errW_some] <;> rfl) | (simp [*, errW_none, errW_some] <;> rfl), by repeat (first | (with_reducible first | exact HB.out | apply beA | apply bpN | apply bd1 | refine beS ?_ GE182.out | refine beS ?_ GE183.out) | exact HB.out)⟩
       ·rw [if_neg c15] at H
        exact absurd H (by simp)
      ·rw [if_neg c14] at H
       have c14b0 : decide (x5_2 < (l1_1.length : Int)) = false := decide_eq_false c14
       clear c14
       have H' := Z0.mk H
       clear H
       have hnb22 := NB183_182.out
       have hnc22 := NB182_183.out
       have hcz23_0 : wr.cell? ⟨gb183, 0, none⟩ = some (.int .i64 a1_0) := (bCe BK183.out 0).trans rfl
       have hcz23_1 : wr.cell? ⟨gb183, 1, none⟩ = some (.slice A1_1 l1_1.length c1_1) := (bCe BK183.out 1).trans rfl
       have hcz23_2 : wr.cell? ⟨gb183, 2, none⟩ = some (.int .i64 a1_2) := (bCe BK183.out 2).trans rfl
       have hcz23_3 : wr.cell? ⟨gb183, 3, none⟩ = some (.slice A1_3 l1_3.length c1_3) := (bCe BK183.out 3).trans rfl
       have hfz23_0 := bFz BK183.out 0
       have hfz23_1 := bFz BK183.out 1
       have hfz23_2 := bFz BK183.out 2
       have hfz23_3 := bFz BK183.out 3
       go_wp2
       go_loopg [7] k2 (fun kq v7 w' => ∃ (x7_3 : Int), v7 = .int .i64 x7_3 ∧ Z0 (columbaryref13_Right.l1 kq x7_3 a1_0 l1_1 a1_2 l1_3 = some r) ∧ Z0 (kq ≤ k2) ∧ Z0 (w'.heap[gb182]? = some (.cells #[(.slice A0_0 l0_0.length c0_0), (.slice A0_1 l0_1.length c0_1)] 24 (0, 0))) ∧ Z0 (w'.heap[gb183]? = some (.cells #[.int .i64 a1_0, (.slice A1_1 l1_1.length c1_1), .int .i64 a1_2, (.slice A1_3 l1_3.length c1_3)] 39 (0, 0))) ∧ Z0 (Below w.heap.size w w'))
       case atStart => exact ⟨(0), (by first | rfl | (simp; done) | (simp [*]; done)), H', ⟨Nat.le_refl _⟩, ⟨by (with_reducible repeat (first | refine bDN ?_ _ | refine bDr ?_ | refine bAl ?_ _)); exact BK182.out⟩, ⟨by (with_reducible repeat (first | refine bDN ?_ _ | refine bDr ?_ | refine bAl ?_ _)); exact BK183.out⟩, ⟨by repeat (first | (with_reducible first | exact HB.out | apply beA | apply bpN | apply bd1 | refine beS ?_ GE182.out | refine beS ?_ GE183.out) | exact HB.out)⟩⟩
       case round =>
        clear H'
        try clear c1
        try clear p1
        try clear q1
        try clear hx1
        try clear c2
        try clear p2
        try clear c3
        try clear c5
        try clear c6
        try clear c6b0
        try clear c6b1
        try clear c6b2
        try clear p6
        try clear c7
        try clear c10
        try clear c13
        try clear c14
        try clear c14b0
        try clear c15
        try clear c15b0
        try clear c17
        try clear c18
        try clear p18
        try clear q18
        try clear hx18
        try clear c20
        try clear c22
        try clear hcz11_0
        try clear hcz11_1
        try clear hcz11_2
        try clear hcz11_3
        try clear hcz12_0
        try clear hcz12_1
        try clear hcz19_0
        try clear hcz19_1
        try clear hcz19_2
        try clear hcz19_3
        try clear hcz21_0
        try clear hcz21_1
        try clear hcz21_2
        try clear hcz21_3
        try clear hcz23_0
        try clear hcz23_1
        try clear hcz23_2
        try clear hcz23_3
        try clear hcz8_0
        try clear hcz8_1
        try clear hcz8_2
        try clear hcz8_3
        try clear hcz9_0
        try clear hcz9_1
        try clear hfz11_0
        try clear hfz11_1
        try clear hfz11_2
        try clear hfz11_3
        try clear hfz12_0
        try clear hfz12_1
        try clear hfz19_0
        try clear hfz19_1
        try clear hfz19_2
        try clear hfz19_3
        try clear hfz21_0
        try clear hfz21_1
        try clear hfz21_2
        try clear hfz21_3
        try clear hfz23_0
        try clear hfz23_1
        try clear hfz23_2
        try clear hfz23_3
        try clear hfz8_0
        try clear hfz8_1
        try clear hfz8_2
        try clear hfz8_3
        try clear hfz9_0
        try clear hfz9_1
        try clear hx184_0
        try clear p184
        try clear p2
        try clear q184
        obtain ⟨x7_3, rfl, HA, HK3, BK182, BK183, HB⟩ := hrel
        cases gk with
        | zero => exact absurd HA.out (by simp [columbaryref13_Right.l1])
        | succ k3 =>
         have H := HA.out
         clear HA
         simp only [columbaryref13_Right.l1] at H
         by_cases c24 : x7_3 < (l1_3.length : Int)
         ·rw [if_pos c24] at H
          have c24b0 : decide (x7_3 < (l1_3.length : Int)) = true := decide_eq_true c24
          clear c24
          by_cases c25 : 0 ≤ x7_3
          ·rw [if_pos c25] at H
           have c25b0 : decide (0 ≤ x7_3) = true := decide_eq_true c25
           clear c25
           replace H := Option.bind_eq_some_iff.mp H
           obtain ⟨t187, A260, H⟩ := H
           replace H : (if t187 = true then (columbaryref13_Right.l1 k3 (wrap64 (x7_3 + 1)) a1_0 l1_1 a1_2 l1_3) else (some false)) = some r := H
           have A26 := Z0.mk A260
           clear A260
           by_cases c27 : t187 = true
           ·subst c27
            have H1 : (columbaryref13_Right.l1 k3 (wrap64 (x7_3 + 1)) a1_0 l1_1 a1_2 l1_3) = some r := by rw [if_pos rfl] at H; exact H
            clear H
            have H := H1
            clear H1
            have H' := Z0.mk H
            clear H
            have hnb28 := NB183_182.out
            have hnc28 := NB182_183.out
            have hcz29_0 : wr.cell? ⟨gb183, 0, none⟩ = some (.int .i64 a1_0) := (bCe BK183.out 0).trans rfl
            have hcz29_1 : wr.cell? ⟨gb183, 1, none⟩ = some (.slice A1_1 l1_1.length c1_1) := (bCe BK183.out 1).trans rfl
            have hcz29_2 : wr.cell? ⟨gb183, 2, none⟩ = some (.int .i64 a1_2) := (bCe BK183.out 2).trans rfl
            have hcz29_3 : wr.cell? ⟨gb183, 3, none⟩ = some (.slice A1_3 l1_3.length c1_3) := (bCe BK183.out 3).trans rfl
            have hfz29_0 := bFz BK183.out 0
            have hfz29_1 := bFz BK183.out 1
            have hfz29_2 := bFz BK183.out 2
            have hfz29_3 := bFz BK183.out 3
            have p186 : 0 ≤ (x7_3 : Int) := of_decide_eq_true (by first | (with_reducible assumption) | assumption)
            have q186 : x7_3 < (l1_3.length : Int) := of_decide_eq_true (by first | (with_reducible assumption) | assumption)
            obtain ⟨ad186, e186, hx186_0, hx186_1, hx186_2⟩ := at_T71 HR1_3.out x7_3 p186 q186
            cases e186
            replace hx186_0 := (HB.out.cell (World.block_lt_of_cell? w _ hx186_0)).trans hx186_0
            replace hx186_1 := (HB.out.cell (World.block_lt_of_cell? w _ hx186_1)).trans hx186_1
            replace hx186_2 := (HB.out.cell (World.block_lt_of_cell? w _ hx186_2)).trans hx186_2
            replace p186 := eq_true p186
            replace q186 := eq_true q186
            go_wp2_with (first | ((with_reducible refine gate_callee (f := 53) rfl ?_); refine goesL_ (some 52) rfl rfl Try.func53 (by kernel_rfl) rfl #[.agg #[.int .i64 ((rd_T71 l1_3 x7_3).f0), .int .i64 ((rd_T71 l1_3 x7_3).f1), .int .i64 ((rd_T71 l1_3 x7_3).f2)]] rfl (by (try simp only [List.map_toArray, List.map_cons, List.map_nil]); first | done | rfl | (simp only [List.length_drop, List.length_take]; rfl)) ?_; (with_reducible refine (columbaryref12_Right.calls ((rd_T71 l1_3 x7_3).f0) ((rd_T71 l1_3 x7_3).f1) ((rd_T71 l1_3 x7_3).f2) true _ A26.out).mono ?_); rintro e w30 ⟨rfl, hb⟩; refine ⟨_, rfl, ?_⟩; have n0_ := Z0.mk (blk_below (g := gb182) (o := .cells #[.slice A0_0 l0_0.length c0_0, .slice A0_1 l0_1.length c0_1] 24 (0, 0)) (by (with_reducible repeat (first | refine bDN ?_ _ | refine bDr ?_ | refine bAl ?_ _)); exact BK182.out) hb); have n1_ := Z0.mk (blk_below (g := gb183) (o := .cells #[.int .i64 a1_0, .slice A1_1 l1_1.length c1_1, .int .i64 a1_2, .slice (some ad186) l1_3.length c1_3] 39 (0, 0)) (by (with_reducible repeat (first | refine bDN ?_ _ | refine bDr ?_ | refine bAl ?_ _)); exact BK183.out) hb); have n2_ := Z0.mk (below_step (by repeat (first | (with_reducible first | exact HB.out | apply beA | apply bpN | apply bd1 | refine beS ?_ GE182.out | refine beS ?_ GE183.out) | exact HB.out)) hb); clear BK182; clear BK183; clear HB; have BK182 := n0_; have BK183 := n1_; have HB := n2_; clear n0_ n1_ n2_; (try clear hb); (try clear hb2); (try clear hk); (try clear hi)))
            go_roundg k3
            case measure => have := HJ2.out; have := HK2.out; have := HK3.out; omega
            case rel => exact ⟨(wrap64 (x7_3 + 1)), (by first | rfl | (simp; done) | (simp [*]; done)), H', ⟨by have := HJ2.out; have := HK2.out; have := HK3.out; omega⟩, ⟨by (with_reducible repeat (first | refine bDN ?_ _ | refine bDr ?_ | refine bAl ?_ _)); exact BK182.out⟩, ⟨by (with_reducible repeat (first | refine bDN ?_ _ | refine bDr ?_ | refine bAl ?_ _)); exact BK183.out⟩, ⟨by repeat (first | (with_reducible first | exact HB.out | apply beA | apply bpN | apply bd1 | refine beS ?_ GE182.out | refine beS ?_ GE183.out) | exact HB.out)⟩⟩
           ·replace c27 := Bool.eq_false_iff.mpr c27
            subst c27
            have H1 : (some false) = some r := by rw [if_neg (show ¬ (false = true) by decide)] at H; exact H
            clear H
            have H := H1
            clear H1
            obtain rfl := Option.some.inj H
            have hnb31 := NB183_182.out
            have hnc31 := NB182_183.out
            have hcz32_0 : wr.cell? ⟨gb183, 0, none⟩ = some (.int .i64 a1_0) := (bCe BK183.out 0).trans rfl
            have hcz32_1 : wr.cell? ⟨gb183, 1, none⟩ = some (.slice A1_1 l1_1.length c1_1) := (bCe BK183.out 1).trans rfl
            have hcz32_2 : wr.cell? ⟨gb183, 2, none⟩ = some (.int .i64 a1_2) := (bCe BK183.out 2).trans rfl
            have hcz32_3 : wr.cell? ⟨gb183, 3, none⟩ = some (.slice A1_3 l1_3.length c1_3) := (bCe BK183.out 3).trans rfl
            have hfz32_0 := bFz BK183.out 0
            have hfz32_1 := bFz BK183.out 1
            have hfz32_2 := bFz BK183.out 2
            have hfz32_3 := bFz BK183.out 3
            have p186 : 0 ≤ (x7_3 : Int) := of_decide_eq_true (by first | (with_reducible assumption) | assumption)
            have q186 : x7_3 < (l1_3.length : Int) := of_decide_eq_true (by first | (with_reducible assumption) | assumption)
            obtain ⟨ad186, e186, hx186_0, hx186_1, hx186_2⟩ := at_T71 HR1_3.out x7_3 p186 q186
            cases e186
            replace hx186_0 := (HB.out.cell (World.block_lt_of_cell? w _ hx186_0)).trans hx186_0
            replace hx186_1 := (HB.out.cell (World.block_lt_of_cell? w _ hx186_1)).trans hx186_1
            replace hx186_2 := (HB.out.cell (World.block_lt_of_cell? w _ hx186_2)).trans hx186_2
            replace p186 := eq_true p186
            replace q186 := eq_true q186
            go_wp2_with (first | ((with_reducible refine gate_callee (f := 53) rfl ?_); refine goesL_ (some 52) rfl rfl Try.func53 (by kernel_rfl) rfl #[.agg #[.int .i64 ((rd_T71 l1_3 x7_3).f0), .int .i64 ((rd_T71 l1_3 x7_3).f1), .int .i64 ((rd_T71 l1_3 x7_3).f2)]] rfl (by (try simp only [List.map_toArray, List.map_cons, List.map_nil]); first | done | rfl | (simp only [List.length_drop, List.length_take]; rfl)) ?_; (with_reducible refine (columbaryref12_Right.calls ((rd_T71 l1_3 x7_3).f0) ((rd_T71 l1_3 x7_3).f1) ((rd_T71 l1_3 x7_3).f2) false _ A26.out).mono ?_); rintro e w33 ⟨rfl, hb⟩; refine ⟨_, rfl, ?_⟩; have n0_ := Z0.mk (blk_below (g := gb182) (o := .cells #[.slice A0_0 l0_0.length c0_0, .slice A0_1 l0_1.length c0_1] 24 (0, 0)) (by (with_reducible repeat (first | refine bDN ?_ _ | refine bDr ?_ | refine bAl ?_ _)); exact BK182.out) hb); have n1_ := Z0.mk (blk_below (g := gb183) (o := .cells #[.int .i64 a1_0, .slice A1_1 l1_1.length c1_1, .int .i64 a1_2, .slice (some ad186) l1_3.length c1_3] 39 (0, 0)) (by (with_reducible repeat (first | refine bDN ?_ _ | refine bDr ?_ | refine bAl ?_ _)); exact BK183.out) hb); have n2_ := Z0.mk (below_step (by repeat (first | (with_reducible first | exact HB.out | apply beA | apply bpN | apply bd1 | refine beS ?_ GE182.out | refine beS ?_ GE183.out) | exact HB.out)) hb); clear BK182; clear BK183; clear HB; have BK182 := n0_; have BK183 := n1_; have HB := n2_; clear n0_ n1_ n2_; (try clear hb); (try clear hb2); (try clear hk); (try clear hi)))
            go_ret
            exact ⟨by first | rfl | (simp [errW_none, errW_some] <;> rfl) | (simp [*, errW_none, errW_some] <;> rfl), by repeat (first | (with_reducible first | exact HB.out | apply beA | apply bpN | apply bd1 | refine beS ?_ GE182.out | refine beS ?_ GE183.out) | exact HB.out)⟩
          ·rw [if_neg c25] at H
           exact absurd H (by simp)
         ·rw [if_neg c24] at H
          have c24b0 : decide (x7_3 < (l1_3.length : Int)) = false := decide_eq_false c24
          clear c24
          by_cases c34 : a1_0 ≥ 0
          ·rw [if_pos c34] at H
           have c34b0 : decide (0 ≤ a1_0) = true := decide_eq_true c34
           clear c34
           by_cases c35 : a1_0 ≤ 1099511627776
           ·rw [if_pos c35] at H
            have c35b0 : decide (a1_0 ≤ 1099511627776) = true := decide_eq_true c35
            clear c35
            by_cases c36 : a1_2 ≥ 1
            ·rw [if_pos c36] at H
             have c36b0 : decide (1 ≤ a1_2) = true := decide_eq_true c36
             clear c36
             obtain rfl := Option.some.inj H
             have hnb37 := NB183_182.out
             have hnc37 := NB182_183.out
             have hcz38_0 : wr.cell? ⟨gb183, 0, none⟩ = some (.int .i64 a1_0) := (bCe BK183.out 0).trans rfl
             have hcz38_1 : wr.cell? ⟨gb183, 1, none⟩ = some (.slice A1_1 l1_1.length c1_1) := (bCe BK183.out 1).trans rfl
             have hcz38_2 : wr.cell? ⟨gb183, 2, none⟩ = some (.int .i64 a1_2) := (bCe BK183.out 2).trans rfl
             have hcz38_3 : wr.cell? ⟨gb183, 3, none⟩ = some (.slice A1_3 l1_3.length c1_3) := (bCe BK183.out 3).trans rfl
             have hfz38_0 := bFz BK183.out 0
             have hfz38_1 := bFz BK183.out 1
             have hfz38_2 := bFz BK183.out 2
             have hfz38_3 := bFz BK183.out 3
             go_wp2
             go_ret
             exact ⟨by first | rfl | (simp [errW_none, errW_some] <;> rfl) | (simp [*, errW_none, errW_some] <;> rfl), by repeat (first | (with_reducible first | exact HB.out | apply beA | apply bpN | apply bd1 | refine beS ?_ GE182.out | refine beS ?_ GE183.out) | exact HB.out)⟩
            ·rw [if_neg c36] at H
             have c36b0 : decide (1 ≤ a1_2) = false := decide_eq_false c36
             clear c36
             obtain rfl := Option.some.inj H
             have hnb39 := NB183_182.out
             have hnc39 := NB182_183.out
             have hcz40_0 : wr.cell? ⟨gb183, 0, none⟩ = some (.int .i64 a1_0) := (bCe BK183.out 0).trans rfl
             have hcz40_1 : wr.cell? ⟨gb183, 1, none⟩ = some (.slice A1_1 l1_1.length c1_1) := (bCe BK183.out 1).trans rfl
             have hcz40_2 : wr.cell? ⟨gb183, 2, none⟩ = some (.int .i64 a1_2) := (bCe BK183.out 2).trans rfl
             have hcz40_3 : wr.cell? ⟨gb183, 3, none⟩ = some (.slice A1_3 l1_3.length c1_3) := (bCe BK183.out 3).trans rfl
             have hfz40_0 := bFz BK183.out 0
             have hfz40_1 := bFz BK183.out 1
             have hfz40_2 := bFz BK183.out 2
             have hfz40_3 := bFz BK183.out 3
             go_wp2
             go_ret
             exact ⟨by first | rfl | (simp [errW_none, errW_some] <;> rfl) | (simp [*, errW_none, errW_some] <;> rfl), by repeat (first | (with_reducible first | exact HB.out | apply beA | apply bpN | apply bd1 | refine beS ?_ GE182.out | refine beS ?_ GE183.out) | exact HB.out)⟩
           ·rw [if_neg c35] at H
            have c35b0 : decide (a1_0 ≤ 1099511627776) = false := decide_eq_false c35
            clear c35
            obtain rfl := Option.some.inj H
            have hnb41 := NB183_182.out
            have hnc41 := NB182_183.out
            have hcz42_0 : wr.cell? ⟨gb183, 0, none⟩ = some (.int .i64 a1_0) := (bCe BK183.out 0).trans rfl
            have hcz42_1 : wr.cell? ⟨gb183, 1, none⟩ = some (.slice A1_1 l1_1.length c1_1) := (bCe BK183.out 1).trans rfl
            have hcz42_2 : wr.cell? ⟨gb183, 2, none⟩ = some (.int .i64 a1_2) := (bCe BK183.out 2).trans rfl
            have hcz42_3 : wr.cell? ⟨gb183, 3, none⟩ = some (.slice A1_3 l1_3.length c1_3) := (bCe BK183.out 3).trans rfl
            have hfz42_0 := bFz BK183.out 0
            have hfz42_1 := bFz BK183.out 1
            have hfz42_2 := bFz BK183.out 2
            have hfz42_3 := bFz BK183.out 3
            go_wp2
            go_ret
            exact ⟨by first | rfl | (simp [errW_none, errW_some] <;> rfl) | (simp [*, errW_none, errW_some] <;> rfl), by repeat (first | (with_reducible first | exact HB.out | apply beA | apply bpN | apply bd1 | refine beS ?_ GE182.out | refine beS ?_ GE183.out) | exact HB.out)⟩
          ·rw [if_neg c34] at H
           have c34b0 : decide (0 ≤ a1_0) = false := decide_eq_false c34
           clear c34
           obtain rfl := Option.some.inj H
           have hnb43 := NB183_182.out
           have hnc43 := NB182_183.out
           have hcz44_0 : wr.cell? ⟨gb183, 0, none⟩ = some (.int .i64 a1_0) := (bCe BK183.out 0).trans rfl
           have hcz44_1 : wr.cell? ⟨gb183, 1, none⟩ = some (.slice A1_1 l1_1.length c1_1) := (bCe BK183.out 1).trans rfl
           have hcz44_2 : wr.cell? ⟨gb183, 2, none⟩ = some (.int .i64 a1_2) := (bCe BK183.out 2).trans rfl
           have hcz44_3 : wr.cell? ⟨gb183, 3, none⟩ = some (.slice A1_3 l1_3.length c1_3) := (bCe BK183.out 3).trans rfl
           have hfz44_0 := bFz BK183.out 0
           have hfz44_1 := bFz BK183.out 1
           have hfz44_2 := bFz BK183.out 2
           have hfz44_3 := bFz BK183.out 3
           go_wp2
           go_ret
           exact ⟨by first | rfl | (simp [errW_none, errW_some] <;> rfl) | (simp [*, errW_none, errW_some] <;> rfl), by repeat (first | (with_reducible first | exact HB.out | apply beA | apply bpN | apply bd1 | refine beS ?_ GE182.out | refine beS ?_ GE183.out) | exact HB.out)⟩
end Go.Proofs.Ytdeeffahfkndkaa.P
