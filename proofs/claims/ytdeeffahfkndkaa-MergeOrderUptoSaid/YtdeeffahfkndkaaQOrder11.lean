/- A part of the proof: lemmas and contracts of functions (printed or written by the session's program, and by hand), in dependency order. -/
import Derived.Shelf.Abstract
import Derived.Shelf.RegionOpen
import Derived.TacticsInMore
import Derived.LoopNIn
import Derived.LoopIn
import Derived.Maps.AppendAt
import Derived.Test.YtdeeffahfkndkaaQOrder5
import Derived.Test.YtdeeffahfkndkaaQOrder9
namespace Go.Proofs.Ytdeeffahfkndkaa.P
open Go.RowKit Go.Proofs.YtdeeffahfkndkaaW.PrintWords Go.Proofs.YtdeeffahfkndkaaW.PrintLast Go.Proofs.YtdeeffahfkndkaaW.PrintMore
set_option linter.unusedVariables false
set_option linter.unusedSimpArgs false
attribute [local go_sem] Oper.semAt_some
structure RV (w : World) where
 x : S39
 A1 : Option Addr
 c1 : Nat
 A3 : Option Addr
 c3 : Nat
 l1 : x.f1.length ≤ c1
 g1 : Kd.string.C w A1 x.f1.length x.f1
 l3 : x.f3.length ≤ c3
 g3 : k71.C w A3 x.f3.length x.f3
 b1 : x.f1.length < 8796093022208
 b3 : x.f3.length < 5864062014805
def RV.enc {w : World} (p : RV w) : Value := .agg #[.int .i64 p.x.f0, .slice p.A1 p.x.f1.length p.c1, .int .i64 p.x.f2, .slice p.A3 p.x.f3.length p.c3]
def RV.At {w : World} (p : RV w) (ad : Addr) (j : Nat) : Prop :=
 w.cell? (ad.add (j * 4)) = some (.int .i64 p.x.f0) ∧ w.cell? ⟨(ad.add (j * 4)).block, (ad.add (j * 4)).off + 1, none⟩ = some (.slice p.A1 p.x.f1.length p.c1) ∧
 w.cell? ⟨(ad.add (j * 4)).block, (ad.add (j * 4)).off + 2, none⟩ = some (.int .i64 p.x.f2) ∧ w.cell? ⟨(ad.add (j * 4)).block, (ad.add (j * 4)).off + 3, none⟩ = some (.slice p.A3 p.x.f3.length p.c3)
theorem list_choose {α β : Type} {f : β → α} : ∀ (xs : List α) (Q : Nat → β → Prop), (∀ (j : Nat) x, xs[j]? = some x → ∃ b, f b = x ∧ Q j b) → ∃ zs : List β, zs.map f = xs ∧ ∀ (j : Nat) b, zs[j]? = some b → Q j b
 | [], _, _ => ⟨[], rfl, fun j b h => by simp at h⟩
 | x :: xs, Q, h => by
  obtain ⟨b, hb, hq⟩ := h 0 x rfl
  obtain ⟨zs, hz, hQ⟩ := list_choose xs (fun j b => Q (j + 1) b) (fun j y hj => h (j + 1) y (by simpa using hj))
  refine ⟨b :: zs, by simp [hb, hz], fun j c hj => ?_⟩
  cases j with
  | zero => simp at hj; exact hj ▸ hq
  | succ j => exact hQ j c (by simpa using hj)
theorem rvs_of {w : World} {ad : Addr} {n : Nat} {xs : List S39} (h : k39.C w (some ad) n xs) (hb : ∀ x ∈ xs, x.f1.length < 8796093022208 ∧ x.f3.length < 5864062014805) : ∃ zs : List (RV w), zs.map (·.x) = xs ∧ ∀ (j : Nat) (p : RV w), zs[j]? = some p → p.At ad j := by
 refine list_choose xs _ (fun j x hj => ?_)
 have hlt : j < xs.length := (List.getElem?_eq_some_iff.1 hj).1
 have hn : xs.length = n := h.1
 obtain ⟨ad', A1, c1, A3, c3, e, h0, h1, h2, h3, l1, g1, l3, g3⟩ := at_T39 h (j : Int) (by omega) (by omega)
 cases e
 have hx : rd_T39 xs (j : Int) = x := by simp [rd_T39, List.getD_eq_getElem?_getD, hj]
 rw [hx] at h0 h1 h2 h3 l1 g1 l3 g3
 simp only [Int.toNat_natCast] at h0 h1 h2 h3
 obtain ⟨q1, q3⟩ := hb x (List.mem_of_getElem? hj)
 exact ⟨⟨x, A1, c1, A3, c3, l1, g1, l3, g3, q1, q3⟩, rfl, h0, h1, h2, h3⟩
set_option maxRecDepth 100000 in
set_option maxHeartbeats 4000000 in
theorem Values1_in (w : World) (n l Bs : Nat) (A : Option Addr) (cap : Nat) (zs : List (RV w)) (hz : zs.length * 64 ≤ 140737488355328) (hcap : zs.length ≤ cap) (hat : ∀ (j : Nat) (p : RV w), zs[j]? = some p → ∃ ad, A = some ad ∧ p.At ad j) (J Jx : List (RV w) → World → Prop)
  (hJ : ∀ s W o, J s W → J s (W.alloc o))
  (hY : ∀ pre x W, J pre W → pre.length < zs.length → YieldAt Fence.wide (n - 1) Try.prog l #[x.enc] W fun e W' =>
   (e = .returned (.bool true) ∧ J (pre ++ [x]) W' ∧ Below w.heap.size W W') ∨ (e = .returned (.bool false) ∧ Jx (pre ++ [x]) W'))
  (W : World) (hW : Below w.heap.size w W) (hBs : W.cell? ⟨Bs, 0, none⟩ = some (.slice A zs.length cap)) (h0 : J [] W) :
  CallsIn Fence.wide n Try.prog 74 #[.func (.yield l) #[] #[], .pointer (some ⟨Bs, 0, none⟩)] W fun e W' => (∃ v, e = .returned v) ∧
   ((∃ ys, ys = zs ∧ J ys W') ∨ (∃ pre, True ∧ Jx pre W')) := by
 refine callsIn_of_wp Try.func74 rfl trivial ?_ rfl
 simp only [Try.ntmps74, List.size_toArray, List.length_cons, List.length_nil, Nat.reduceAdd, Nat.reduceSub, Array.replicate_succ, Array.replicate_zero, List.push_toArray, List.append_toArray, List.nil_append, List.cons_append]
 have HZ := Z0.mk hat
 have HJ := Z0.mk hJ
 clear hat hJ
 gi_wp2
 gi_loopw [7] (fun i wr => ∃ k : Nat, k ≤ zs.length ∧ i = .int .i64 k ∧ Z0 (J (zs.take k) wr) ∧ Z0 (Below w.heap.size w wr))
  (fun i _ => zs.length - (intOf i).toNat)
 case atStart => exact ⟨0, Nat.zero_le _, rfl, ⟨h0⟩, ⟨hW⟩⟩
 case round =>
  obtain ⟨k, hk, rfl, HJs, HB⟩ := hrel
  by_cases hlt : k < zs.length
  ·obtain ⟨p, hp⟩ : ∃ p, zs[k]? = some p := ⟨_, List.getElem?_eq_getElem hlt⟩
   have HP := Z0.mk hp
   clear hp
   obtain ⟨ad, hA, a0, a1, a2, a3⟩ := HZ.out k p HP.out
   clear HZ
   subst hA
   have lift : ∀ {a : Addr} {v : Value}, w.cell? a = some v → wr.cell? a = some v := fun h => (HB.out.cell (World.block_lt_of_cell? w _ h)).trans h
   have b0 := lift a0
   have b1 := lift a1
   have b2 := lift a2
   have b3 := lift a3
   clear a0 a1 a2 a3 lift
   obtain ⟨fn, tmps, assign, body, hy, hR⟩ := hY (zs.take k) p (wr.alloc (.cells #[.int .i64 p.x.f0, .slice p.A1 p.x.f1.length p.c1, .int .i64 p.x.f2, .slice p.A3 p.x.f3.length p.c3] 39)) (HJ.out _ _ _ HJs.out) (by rw [List.length_take]; omega)
   dsimp only [RV.enc] at hy
   have HR := Z0.mk hR
   clear hR
   gi_wp2
   refine ⟨fun h => by simp [Fence.wide] at h, RoundIn.mono HR.out ?_⟩
   rintro e W3 (⟨rfl, hJ3, hk3⟩ | ⟨rfl, hJx3⟩)
   ·have HJ3 := Z0.mk hJ3
    have HK3 := Z0.mk hk3
    clear hJ3 hk3
    gi_wp2
    go_roundw
    case rel => exact ⟨k + 1, by omega, by simp, ⟨by rw [List.take_succ_eq_append_getElem hlt]; have h := HP.out; rw [List.getElem?_eq_getElem hlt] at h; cases h; exact HJ3.out⟩, ⟨(HB.out.alloc HB.out.size _).trans HK3.out⟩⟩
    case measure => simp [intOf]; omega
   ·gi_wp2
    refine bodyPost_ret (results_none rfl _ _ _) rfl ?_
    exact ⟨⟨_, rfl⟩, .inr ⟨_, trivial, hJx3⟩⟩
  ·obtain rfl : k = zs.length := by omega
   gi_wp2
   go_end0
   exact ⟨⟨_, rfl⟩, .inl ⟨_, List.take_length, HJs.out⟩⟩
set_option maxHeartbeats 1000000 in
theorem Values_in (n : Nat) (A : Option Addr) (len cap : Nat) (w : World) :
  CallsIn Fence.wide n Try.prog 55 #[.slice A len cap] w fun e w' => e = .returned (.func (.func 74) #[] #[.pointer (some ⟨w.heap.size, 0, none⟩)]) ∧ w' = w.alloc (.cells #[.slice A len cap] 28) := by
 refine callsIn_of_wp Try.func55 rfl trivial ?_ rfl
 simp only [Try.ntmps55, List.size_toArray, List.length_cons, List.length_nil, Nat.reduceAdd, Nat.reduceSub, Array.replicate_succ, Array.replicate_zero, List.push_toArray, List.append_toArray, List.nil_append, List.cons_append]
 gi_wp2
 go_ret
 exact ⟨rfl, rfl⟩
theorem Values_stops (w : World) (n Bs : Nat) (A : Option Addr) (cap : Nat) (zs : List (RV w)) (hz : zs.length * 64 ≤ 140737488355328) (hcap : zs.length ≤ cap) (hat : ∀ (j : Nat) (p : RV w), zs[j]? = some p → ∃ ad, A = some ad ∧ p.At ad j)
  (w1 : World) (hb : Below w.heap.size w w1) (hBs1 : Bs < w1.heap.size) (hBs : w1.cell? ⟨Bs, 0, none⟩ = some (.slice A zs.length cap)) :
  SeqStopsK Fence.wide n Try.prog 74 #[.pointer (some ⟨Bs, 0, none⟩)] (fun p : RV w => #[p.enc]) (Below w.heap.size) (fun ys => ys = zs) (fun _ => True) zs.length w1 := fun l J Jx W hW hJ hJx hY h0 =>
 (Values1_in w n l Bs A cap zs hz hcap hat J Jx (fun s W o hs => hJ s W _ none hs (World.grownBy_alloc W o none) (fun r e => by cases e)) hY W (hb.trans (hW.mono hb.size)) ((hW.cell (p := ⟨Bs, 0, none⟩) hBs1).trans hBs) h0).mono (fun e W' h => h)
def CopyI (w : World) (pre : List (RV w)) (W : World) : Prop :=
 (∃ v, W.heap[w.heap.size]? = some (.cells #[v] 28 (0, 0)) ∧ k39.R 39 W w.heap.size (fun _ => True) v (pre.map (·.x))) ∧ Below w.heap.size w W
theorem R_row {α : Type} {d : Kd α} {e : Nat} {W W' : World} {base : Nat} {ok : Nat → Prop} {v : Value} {xs : List α} (h : d.R e W base ok v xs) {row : Option Nat} (hg : W.grownBy W' row) (hr : ∀ r, row = some r → ∃ o : Obj, W.heap[r]? = some o ∧ o.isCells = false) : d.R e W' base ok v xs :=
 Kd.R_mono (Kd.R_step (Kd.R_bound h) (fun k hk hlt => hg.block k hlt (fun e => by
  obtain ⟨o, ho, hc⟩ := hr k e.symm
  obtain ⟨_, _, _, q, _, cells, hcs⟩ := hk
  rw [hcs] at ho
  cases ho
  cases hc))) (fun _ hk => hk.1)
theorem CopyI.own (w : World) (B : Nat) (hB : w.heap.size ≤ B) : OwnFrom B (CopyI w) := fun s W W' row ⟨⟨v, hb, hR⟩, hbel⟩ hg hr => by
 refine ⟨⟨v, ?_, R_row hR hg (fun r e => (hr r e).2)⟩, ?_⟩
 ·refine (hg.block _ (blk_lt hb) (fun e => ?_)).trans hb
  obtain ⟨_, o, ho, hc⟩ := hr _ e.symm
  rw [hb] at ho
  cases ho
  cases hc
 ·exact hbel.grown hg hbel.size (fun k e => Nat.le_trans hB (hr k e).1)
def rows_Copy.ok (l0 : List S39) : Bool := decide (l0.length < 1099511627776) && l0.all fun x => decide (x.f1.length < 8796093022208) && decide (x.f3.length < 5864062014805)
def rows_Copy.f (l0 : List S39) : Option (List S39) := if rows_Copy.ok l0 = true then some l0 else none
theorem copy_start {w : World} {l0 : List S39} {A0 : Option Addr} (hr0 : Kd.C k39 w A0 l0.length l0) (hb : rows_Copy.ok l0 = true) : ∃ zs : List (RV w), zs.map (·.x) = l0 ∧ ∀ (j : Nat) (p : RV w), zs[j]? = some p → ∃ ad, A0 = some ad ∧ p.At ad j := by
 cases A0 with
 | none =>
  obtain ⟨_, rfl⟩ := C_none hr0
  exact ⟨[], rfl, fun j p h => by simp at h⟩
 | some ad =>
  obtain ⟨zs, h1, h2⟩ := rvs_of hr0 (fun x hx => by simp only [rows_Copy.ok, Bool.and_eq_true, List.all_eq_true, decide_eq_true_eq] at hb; exact hb.2 x hx)
  exact ⟨zs, h1, fun j p h => ⟨ad, rfl, h2 j p h⟩⟩
set_option maxHeartbeats 8000000 in
set_option maxRecDepth 100000 in
theorem rows_Copy.calls (A0 : Option Addr) (c0 : Nat) (l0 : List S39) (r : List S39) (w : World) (hr0 : Kd.C k39 w A0 l0.length l0) (hc0 : l0.length ≤ c0) (h : rows_Copy.f l0 = some r) :
  Calls Try.prog 37 #[.slice A0 l0.length c0] w fun e w' => ∃ v0_ : Value, e = .returned (v0_) ∧ Kd.R k39 39 w' w.heap.size (fun _ => True) v0_ r ∧ Below w.heap.size w w' := by
 unfold rows_Copy.f at h
 by_cases hok : rows_Copy.ok l0 = true
 ·rw [if_pos hok] at h
  obtain rfl := Option.some.inj h
  clear h
  obtain ⟨zs, hz, hat⟩ := copy_start hr0 hok
  have hlen : l0.length < 1099511627776 := by simp only [rows_Copy.ok, Bool.and_eq_true, decide_eq_true_eq] at hok; exact hok.1
  have HZ := Z0.mk hz
  have hlz : zs.length = l0.length := by rw [← HZ.out, List.length_map]
  rw [← hlz] at hc0 hlen ⊢
  have HLEN := Z0.mk hlen
  have HAT := Z0.mk hat
  have HOK := Z0.mk hok
  clear hr0 hz hat hlz hok hlen
  refine (callsIn_wide (n := 9)).1 ?_
  refine callsIn_of_wp_marks Try.func37 rfl trivial ?_ rfl
  simp only [Try.ntmps37, List.size_toArray, List.length_cons, List.length_nil, Nat.reduceAdd, Nat.reduceSub, Array.replicate_succ, Array.replicate_zero, List.push_toArray, List.append_toArray, List.nil_append, List.cons_append]
  gi_wp2_with (refine ⟨trivial, ?_⟩; gi_at_call 55; refine (Values_in _ _ _ _ _).mono ?_; rintro e w' ⟨rfl, rfl⟩)
  have hB0 : Below w.heap.size w ((w.alloc (.cells #[.slice none 0 0] 28)).alloc (.cells #[.slice A0 zs.length c0] 28)) := ((Below.refl _ w).alloc (Nat.le_refl _) _).alloc (by simp) _
  have bN := Boxed.new (w.alloc (.cells #[.slice none 0 0] 28)) 28 (.slice A0 zs.length c0)
  rw [World.size_alloc] at bN
  have bO := (Boxed.new w 28 (.slice none 0 0)).alloc (.cells #[.slice A0 zs.length c0] 28)
  refine wpIn_rangeFunc_ownH rfl (by decide) (gf := 74) (lb := #[.pointer (some ⟨w.heap.size + 1, 0, none⟩)]) rfl trivial (enters_of Try.func74 (by kernel_rfl) rfl)
   (Values_stops w 8 (w.heap.size + 1) A0 c0 zs (by have := HLEN.out; omega) hc0 HAT.out _ hB0 (by simp) bN.cell) belowK_t (belowK_b (by simp; omega)) (Below.refl _ _) (fun _ => rfl)
   (CopyI w) (fun _ _ _ => False) (CopyI.own w _ (by simp; omega)) (fun _ _ _ _ _ h _ _ => h) ⟨⟨_, bO, Kd.R_nil _ _ _ _ _⟩, hB0⟩
   (fun p a' W => ∃ Bx, w.heap.size < Bx ∧ W.heap[Bx]? = some (.cells #[.int .i64 p.x.f0, .slice p.A1 p.x.f1.length p.c1, .int .i64 p.x.f2, .slice p.A3 p.x.f3.length p.c3] 39 (0, 0)) ∧
    a' = { tmps := #[.slice A0 zs.length c0, undef, .slice none 0 0, .pointer (some ⟨w.heap.size, 0, none⟩), .pointer (some ⟨Bx, 0, none⟩), .slice A0 zs.length c0, .func (.func 74) #[] #[.pointer (some ⟨w.heap.size + 1, 0, none⟩)], p.enc, undef, undef, undef, undef, undef, undef], defers := [] })
   ?hAx ?assign ?body ?done ?stop
  case hAx =>
   rintro p a' s W W' row ⟨Bx, h1, h2, h3⟩ hg hr
   refine ⟨Bx, h1, (hg.block _ (blk_lt h2) (fun e => ?_)).trans h2, h3⟩
   obtain ⟨_, o, ho, hc⟩ := hr _ e.symm
   rw [h2] at ho
   cases ho
   cases hc
  case assign =>
   rintro l pre p W K ⟨⟨v, hb, hR⟩, hB⟩ hK
   have HI := Z0.mk (And.intro hb (And.intro hR hB))
   clear hb hR hB
   dsimp only [RV.enc] at hK ⊢
   gi_wp2
   refine hK _ _ ((KeepsOthers.alloc _ _).from _) ((Below.refl _ W).alloc HI.out.2.2.size _) ⟨⟨v, (Boxed.alloc HI.out.1 _), Kd.R_alloc HI.out.2.1 _⟩, HI.out.2.2.alloc HI.out.2.2.size _⟩ ⟨W.heap.size, blk_lt HI.out.1, heap_alloc_new W _, rfl⟩
  case body =>
   rintro l pre p a' W hl _ ⟨⟨v, hb, hR⟩, hB⟩ ⟨Bx, h1, h2, rfl⟩ hlt
   have HG := Z0.mk h1
   have HLT := Z0.mk hlt
   have HR := Z0.mk hR
   have HB := Z0.mk hB
   have HX := Z0.mk h2
   have HV := Z0.mk hb
   clear h1 hlt hR hB h2 hb hc0 hB0 bN bO hl
   dsimp only [RV.enc]
   gi_wp2
   refine startR_ (m := 6) (S := fun w' => w'.cell? ⟨w.heap.size, 0, none⟩ = some v ∧ w'.cell? ⟨Bx, 0, none⟩ = some (.int .i64 p.x.f0) ∧ w'.cell? ⟨Bx, 1, none⟩ = some (.slice p.A1 p.x.f1.length p.c1) ∧ w'.cell? ⟨Bx, 2, none⟩ = some (.int .i64 p.x.f2) ∧ w'.cell? ⟨Bx, 3, none⟩ = some (.slice p.A3 p.x.f3.length p.c3)) (ds := [4, 5]) #[false, false, false, false, false, false] (by kernel_rfl) rfl rfl (by rfl) (by rintro ⟨a, w, h⟩; exact h)
    ⟨(bCe HV.out 0).trans rfl, (bCe HX.out 0).trans rfl, (bCe HX.out 1).trans rfl, (bCe HX.out 2).trans rfl, (bCe HX.out 3).trans rfl⟩ (fun hHeld => ?_)
   obtain ⟨W1, hW1⟩ : ∃ W1, W.drew = W1 := ⟨_, rfl⟩
   rw [hW1] at hHeld ⊢
   refine take_ (i := 0) (N := some 8) (v := v) (a' := ?aa1) #[true, false, false, false, false, false] rfl rfl (by kernel_rfl) (fun _ _ _ h => h) (Or.inl ⟨by rfl, ?hy1⟩) hHeld ?ha1 ?h1
   case hy1 =>
    rintro w' ⟨s0, s1, s2, s3, s4⟩
    clear hW1 hHeld
    go_simp
   case ha1 =>
    show Act.put _ _ _ = _
    simp only [Act.put, qA, qB, qC]
    rfl
   refine take_ (i := 1) (N := some 9) (v := .agg #[.int .i64 p.x.f0, .slice p.A1 p.x.f1.length p.c1, .int .i64 p.x.f2, .slice p.A3 p.x.f3.length p.c3]) (a' := ?aa2) #[true, true, false, false, false, false] rfl rfl (by kernel_rfl) (fun _ _ _ h => h) (Or.inl ⟨by rfl, ?hy2⟩) hHeld ?ha2 ?h2
   case hy2 =>
    rintro w' ⟨s0, s1, s2, s3, s4⟩
    clear hW1 hHeld
    go_simp
   case ha2 =>
    show Act.put _ _ _ = _
    simp only [Act.put, qA, qB, qC]
    rfl
   refine one_ (i := 2) (N := some 10) #[true, true, true, false, false, false] rfl rfl (by kernel_rfl) (by decide) (fun K hK => ?_)
   refine goes_ Try.func56 (by kernel_rfl) rfl #[.agg #[.int .i64 p.x.f0, .slice p.A1 p.x.f1.length p.c1, .int .i64 p.x.f2, .slice p.A3 p.x.f3.length p.c3]] (by rfl) rfl rfl (by (try simp only [List.map_toArray, List.map_cons, List.map_nil]); first | done | rfl) ?_
   have hown : rows_own.f p.x.f0 p.x.f1 p.x.f2 p.x.f3 = some (p.x.f0, p.x.f1, p.x.f2, p.x.f3) := by simp [rows_own.f, slices_Clone_string_string.f, api_Agg.f, p.b1, p.b3]
   have hB1 : Below w.heap.size w W1 := hW1 ▸ below_drew HB.out
   refine (rows_own.calls p.x.f0 p.A1 p.c1 p.x.f1 p.x.f2 p.A3 p.c3 p.x.f3 _ _ _ _ W1 (Kd.C_below p.g1 hB1) p.l1 (Kd.C_below p.g3 hB1) p.l3 hown).mono ?_
   rintro e w7 ⟨v1, v3, rfl, ho1, ho3, hb7⟩
   refine ⟨_, rfl, ?_⟩
   obtain ⟨A1', c1', e1⟩ := Kd.R_slice ho1
   subst e1
   obtain ⟨A3', c3', e3⟩ := Kd.R_slice ho3
   subst e3
   have HO1 := Z0.mk (Kd.R_lower ho1 hB1.size)
   have HO3 := Z0.mk (Kd.R_lower ho3 hB1.size)
   have HB7 := Z0.mk hb7
   have hV7 : w7.heap[w.heap.size]? = some (.cells #[v] 28 (0, 0)) := (hb7.block _ (by rw [← hW1]; exact blk_lt HV.out)).trans (by rw [← hW1]; exact HV.out)
   have hX7 : w7.heap[Bx]? = some (.cells #[.int .i64 p.x.f0, .slice p.A1 p.x.f1.length p.c1, .int .i64 p.x.f2, .slice p.A3 p.x.f3.length p.c3] 39 (0, 0)) := (hb7.block _ (by rw [← hW1]; exact blk_lt HX.out)).trans (by rw [← hW1]; exact HX.out)
   have hR1 : k39.R 39 W1 w.heap.size (fun _ => True) v (pre.map (·.x)) := hW1 ▸ Kd.R_drew HR.out
   have HR7 := Z0.mk (Kd.R_below hR1 hb7)
   have HV7 := Z0.mk hV7
   have HX7 := Z0.mk hX7
   have HBB := Z0.mk (hB1.trans (hb7.mono hB1.size))
   have HKP := Z0.mk (show KeepsOthers W w7 from (hW1 ▸ KeepsOthers.drew W : KeepsOthers W W1).trans (KeepsOthers.of_grownBy (grown_of_below hb7 none) (fun j o hj _ => by cases hj)))
   have HKB := Z0.mk (show Below w.heap.size W w7 from (hW1 ▸ below_drew (Below.refl _ W) : Below w.heap.size W W1).trans (hb7.mono hB1.size))
   clear ho1 ho3 hb7 hV7 hX7 hR1 hB1 hHeld hown
   refine hK.out _ _ ⟨(bCe HV7.out 0).trans rfl, (bCe HX7.out 0).trans rfl, (bCe HX7.out 1).trans rfl, (bCe HX7.out 2).trans rfl, (bCe HX7.out 3).trans rfl⟩ (fun hHeld => ?_)
   clear hK K
   refine norm_ (a' := ?aa3) ?ha3 ?h3
   case ha3 =>
    show Act.put _ _ _ = _
    simp only [Act.put, qA, qB, qC]
    rfl
   refine one_ (i := 3) (N := some 11) #[true, true, true, true, false, false] rfl rfl (by kernel_rfl) (by decide) (fun K hK => ?_)
   refine value_ (v := .slice (some ⟨w7.heap.size, 0, none⟩) 1 1) (w1 := w7.alloc (.cells #[.int .i64 p.x.f0, .slice A1' p.x.f1.length c1', .int .i64 p.x.f2, .slice A3' p.x.f3.length c3'] 39)) (by rfl) rfl (by clear hHeld; go_simp) ?_
   refine hK.out _ _ ⟨(bCe (Boxed.alloc HV7.out _) 0).trans rfl, (bCe (bAl HX7.out _) 0).trans rfl, (bCe (bAl HX7.out _) 1).trans rfl, (bCe (bAl HX7.out _) 2).trans rfl, (bCe (bAl HX7.out _) 3).trans rfl⟩ (fun _ => ?_)
   clear hK K
   refine last_chain [4, 5] _ _ (by decide) (by decide) (by kernel_rfl) rfl ?_
   refine Kd.R_append k39 (w0 := w) w.heap.size rfl (.tmp 8) (.tmp 11) 28 39 (.agg #[(.int .i64 0), (.slice none 0 0), (.int .i64 0), (.slice none 0 0)]) 64 rfl Try.underlying28 info39 rfl (by decide) (by decide) v (pre.map (·.x)) p.x [.int .i64 p.x.f0, .slice A1' p.x.f1.length c1', .int .i64 p.x.f2, .slice A3' p.x.f3.length c3'] (fun _ => True) (fun k => some k ≠ v.ownBlock) rfl rfl
    (k39_mkM _ _ _ p.x (Kd.R_mono (Kd.R_apartR HO1.out HR7.out (by decide)) (fun k hk => hk.2)) (Kd.R_mono (Kd.R_apartR HO3.out HR7.out (by decide)) (fun k hk => hk.2))) (fun k hk => ⟨trivial, hk⟩) (fun _ _ => trivial) HR7.out HBB.out HBB.out.size (by rw [List.length_map]; have h1 := HLT.out; have h2 := HLEN.out; omega) ?_
   intro v9 w9 hR9 hB9 hg9 hat9
   obtain ⟨A9, c9, e9⟩ := Kd.R_slice hR9
   subst e9
   have hne : some w.heap.size ≠ v.ownBlock := Kd.R_ne HR7.out HV7.out (by decide)
   have hV9 := blk_grown HV7.out hg9 hne
   have hkp : KeepsOthers w7 w9 := KeepsOthers.of_grownBy hg9 (fun j o hj ho => by
    obtain ⟨inner, hown⟩ := Kd.R_own HR7.out
    obtain ⟨cells, hcs⟩ := own_typed hown j hj
    rw [hcs] at ho
    cases ho
    rfl)
   have HR9 := Z0.mk hR9
   have HB9 := Z0.mk hB9
   have HV9 := Z0.mk hV9
   have HK9 := Z0.mk hkp
   have hkb : Below w.heap.size w7 w9 := ((Below.refl _ w7).grown hg9 HBB.out.size (fun k hk => by obtain ⟨inner, hown⟩ := Kd.R_own HR7.out; exact own_base hown k hk))
   have HKB9 := Z0.mk hkb
   clear hR9 hB9 hg9 hat9 hne hV9 hkp hkb
   have hcell : w9.cell? ⟨w.heap.size, 0, none⟩ = some v := (bCe HV9.out 0).trans rfl
   have hfro := bFz HV9.out 0
   refine store_event (t := 28) (p := 3) (w1 := w9.setCell ⟨w.heap.size, 0, none⟩ (.slice A9 (pre.map (·.x) ++ [p.x]).length c9)) rfl rfl rfl (by go_simp) ?_
   rintro w10 rfl
   refine wpList_nil ?_
   refine ⟨((HKP.out.trans HK9.out).trans (KeepsOthers.setCell _ _ _)).from _, (HKB.out.trans HKB9.out).setCell (p := ⟨w.heap.size, 0, none⟩) (Nat.le_refl _) _, ⟨⟨_, blk_put HV9.out 0 _ rfl, ?_⟩, HB9.out.setCell (p := ⟨w.heap.size, 0, none⟩) (Nat.le_refl _) _⟩⟩
   rw [List.map_append]
   exact Kd.R_set HR9.out HV9.out (by decide) 0 _
  case done =>
   rintro D ys W hD rfl ⟨⟨v, hb, hR⟩, hB⟩ hK
   have HR := Z0.mk hR
   have HB := Z0.mk hB
   have hc := (bCe hb 0).trans rfl
   have HK := Z0.mk hK
   clear hR hB hK hb
   gi_wp2
   refine ⟨by simp, .inl ⟨_, _, rfl, run_takeDeferred HK.out, ?_⟩⟩
   refine ⟨_, results_tmp rfl _ _ _, _, rfl, ?_, HB.out.trans (belowK_b (w := w) (Nat.le_refl _) W D _ _ (by simp at hD; omega) HK.out rfl rfl)⟩
   rw [← HZ.out]
   exact R_row HR.out (grownBy_putObj' W D _) (fun r e => by cases e; exact ⟨_, HK.out, rfl⟩)
  case stop =>
   rintro D c pre W _ _ h _
   exact h.elim
 ·rw [if_neg hok] at h
  cases h
end Go.Proofs.Ytdeeffahfkndkaa.P
