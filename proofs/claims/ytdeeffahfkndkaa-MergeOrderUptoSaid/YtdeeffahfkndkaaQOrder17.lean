/- A part of the proof: lemmas and contracts of functions (printed or written by the session's program, and by hand), in dependency order. -/
import Derived.Shelf.SlSortCmp.WholeK
import Derived.Shelf.SlSortCmp.NoneTotal
import Derived.Ground.SlsfProg
import Derived.Test.YtdeeffahfkndkaaQOrder16
import Derived.Test.YtdeeffahfkndkaaQOrder12
namespace Go.Proofs
open Go.Shelf
def Try.sortRows_ren : Go.Shelf.Ren := ⟨fun | 6 => 26 | 15 => 48 | 14 => 47 | 28 => 70 | 29 => 71 | 20 => 62 | 21 => 63 | 22 => 64 | 23 => 65 | 24 => 66 | 25 => 67 | 26 => 68 | 27 => 69 | 46 => 78 | 47 => 79 | 48 => 80 | 49 => 81 | 50 => 82 | 57 => 83 | n => n, fun | 22 => 28 | 24 => 39 | 25 => 47 | 3 => 3 | 39 => 78 | 0 => 0 | 53 => 106 | 55 => 108 | 4 => 4 | 46 => 99 | 45 => 98 | 50 => 103 | 5 => 5 | 9 => 9 | 66 => 114 | 70 => 118 | 76 => 120 | 77 => 32 | n => n, fun | n => n⟩
theorem Try.sortRows : Go.Proofs.SlLaysF0.n6 Try.prog Try.sortRows_ren := {
 mixed := by kernel_rfl
 f6 := ⟨Try.f26.name, by decide, Try.func26.trans (congrArg some (by kernel_rfl))⟩
 f14 := ⟨Try.f47.name, by decide, Try.func47.trans (congrArg some (by kernel_rfl))⟩
 f15 := Try.func48.trans (congrArg some (by kernel_rfl))
 f20 := ⟨Try.f62.name, by decide, Try.func62.trans (congrArg some (by kernel_rfl))⟩
 f21 := ⟨Try.f63.name, by decide, Try.func63.trans (congrArg some (by kernel_rfl))⟩
 f22 := ⟨Try.f64.name, by decide, Try.func64.trans (congrArg some (by kernel_rfl))⟩
 f23 := ⟨Try.f65.name, by decide, Try.func65.trans (congrArg some (by kernel_rfl))⟩
 f24 := ⟨Try.f66.name, by decide, Try.func66.trans (congrArg some (by kernel_rfl))⟩
 f25 := ⟨Try.f67.name, by decide, Try.func67.trans (congrArg some (by kernel_rfl))⟩
 f26 := ⟨Try.f68.name, by decide, Try.func68.trans (congrArg some (by kernel_rfl))⟩
 f27 := ⟨Try.f69.name, by decide, Try.func69.trans (congrArg some (by kernel_rfl))⟩
 f28 := Try.func70.trans (congrArg some (by kernel_rfl))
 f29 := Try.func71.trans (congrArg some (by kernel_rfl))
 f46 := ⟨Try.f78.name, by decide, Try.func78.trans (congrArg some (by kernel_rfl))⟩
 f47 := Try.func79.trans (congrArg some (by kernel_rfl))
 f48 := Try.func80.trans (congrArg some (by kernel_rfl))
 f49 := ⟨Try.f81.name, by decide, Try.func81.trans (congrArg some (by kernel_rfl))⟩
 f50 := ⟨Try.f82.name, by decide, Try.func82.trans (congrArg some (by kernel_rfl))⟩
 f57 := ⟨Try.f83.name, by decide, Try.func83.trans (congrArg some (by kernel_rfl))⟩
 t0 := Try.underlying0
 a0 := Try.isAgg0
 z0 := Try.sizeOf0
 v0 := Try.zeroValue0
 t3 := Try.underlying3
 a3 := Try.isAgg3
 z3 := Try.sizeOf3
 v3 := Try.zeroValue3
 t4 := Try.underlying4
 a4 := Try.isAgg4
 z4 := Try.sizeOf4
 v4 := Try.zeroValue4
 t5 := Try.underlying5
 a5 := Try.isAgg5
 z5 := Try.sizeOf5
 v5 := Try.zeroValue5
 t9 := Try.underlying9
 a9 := Try.isAgg9
 z9 := Try.sizeOf9
 v9 := Try.zeroValue9
 t22 := Try.underlying28
 a22 := Try.isAgg28
 z22 := Try.sizeOf28
 v22 := Try.zeroValue28
 t25 := Try.underlying47
 a25 := Try.isAgg47
 z25 := Try.sizeOf47
 v25 := Try.zeroValue47
 t39 := Try.underlying78
 a39 := Try.isAgg78
 z39 := Try.sizeOf78
 v39 := Try.zeroValue78
 t45 := Try.underlying98
 a45 := Try.isAgg98
 z45 := Try.sizeOf98
 v45 := Try.zeroValue98
 t46 := Try.underlying99
 a46 := Try.isAgg99
 z46 := Try.sizeOf99
 v46 := Try.zeroValue99
 t50 := Try.underlying103
 a50 := Try.isAgg103
 z50 := Try.sizeOf103
 v50 := Try.zeroValue103
 t53 := Try.underlying106
 a53 := Try.isAgg106
 z53 := Try.sizeOf106
 v53 := Try.zeroValue106
 t55 := Try.underlying108
 a55 := Try.isAgg108
 z55 := Try.sizeOf108
 v55 := Try.zeroValue108
 t66 := Try.underlying114
 a66 := Try.isAgg114
 z66 := Try.sizeOf114
 v66 := Try.zeroValue114
 t70 := Try.underlying118
 a70 := Try.isAgg118
 z70 := Try.sizeOf118
 v70 := Try.zeroValue118
 t76 := Try.underlying120
 a76 := Try.isAgg120
 z76 := Try.sizeOf120
 v76 := Try.zeroValue120
 t77 := Try.underlying32
 a77 := Try.isAgg32
 z77 := Try.sizeOf32
 v77 := Try.zeroValue32 }
end Go.Proofs
namespace Go.Proofs.Ytdeeffahfkndkaa.P
open Go.RowKit Go.Proofs.YtdeeffahfkndkaaW.PrintWords Go.Proofs.YtdeeffahfkndkaaW.PrintLast Go.Proofs.YtdeeffahfkndkaaW.PrintMore
set_option linter.unusedVariables false
set_option linter.unusedSimpArgs false
def cfR {w : World} (p q : RV w) : Int := cmpRow p.x q.x
theorem ltOf_iff {w : World} (p q : RV w) : ltOf cfR p q = true ↔ cmpRow p.x q.x < 0 := by unfold ltOf cfR; exact decide_eq_true_iff
theorem ltOf_not {w : World} (p q : RV w) : ltOf cfR p q = false ↔ ¬ cmpRow p.x q.x < 0 := by unfold ltOf cfR; exact decide_eq_false_iff_not
theorem swoR (w : World) : Go.Sort.SWO (ltOf (cfR (w := w))) where
 irrefl x := by rw [ltOf_not, cmpRow_self]; decide
 trans x y z h1 h2 := by rw [ltOf_iff] at *; exact cmpRow_trans h1 h2
 ntrans x y z h1 h2 := by
  rw [ltOf_not] at *
  intro h
  rcases Int.lt_or_le (cmpRow y.x x.x) 0 with h3 | h3
  ·exact h2 (cmpRow_trans h3 h)
  ·have h4 : cmpRow x.x y.x = 0 := by have := cmpRow_swap x.x y.x; omega
   have := (cmpRow_key h4 (c := z.x)).1
   exact h2 (by omega)
theorem flat_cells {w : World} [Inhabited (RV w)] (d : Array (RV w)) (t : Nat) (h : t < d.size * 4) : (Go.Sort.flatK RV.cells 4 d)[t]! = ((d[t / 4]!).cells)[t % 4]! := Go.Sort.get_flatK _ _ _ _ h
theorem flat_take {w : World} [Inhabited (RV w)] (d : Array (RV w)) (j : Nat) (p : RV w) (hj : d.toList[j]? = some p) : ((Go.Sort.flatK RV.cells 4 d).toList.drop (j * 4)).take 4 = p.cells := by
 have hjl : j < d.size := by have := (List.getElem?_eq_some_iff.1 hj).1; simpa using this
 have hd : d[j]! = p := by
  rw [Array.getElem?_toList] at hj
  rw [Array.getElem!_eq_getD, Array.getD_eq_getD_getElem?, hj]
  rfl
 have hsz : (Go.Sort.flatK RV.cells 4 d).size = d.size * 4 := Go.Sort.size_flatK _ _ _
 have e := fun i (hi : i < 4) => (show (Go.Sort.flatK RV.cells 4 d).toList[j * 4 + i]? = some (p.cells[i]!) by
  have h1 := flat_cells d (j * 4 + i) (by omega)
  rw [show (j * 4 + i) / 4 = j by omega, show (j * 4 + i) % 4 = i by omega, hd] at h1
  rw [← h1, Array.getElem?_toList, Array.getElem?_eq_getElem (by omega), getElem!_pos _ _ (by omega)])
 refine List.ext_getElem? (fun i => ?_)
 rw [List.getElem?_take]
 by_cases hi : i < 4
 ·rw [if_pos hi, List.getElem?_drop, e i hi]
  match i, hi with
  | 0, _ => rfl
  | 1, _ => rfl
  | 2, _ => rfl
  | 3, _ => rfl
 ·rw [if_neg hi, List.getElem?_eq_none (show p.cells.length ≤ i by show 4 ≤ i; omega)]
theorem holdsK_of_R {w W : World} [Inhabited (RV w)] {base g c : Nat} {ok : Nat → Prop} {zs : List (RV w)} (hR : (kRV w).R 39 W base ok (.slice (some ⟨g, 0, none⟩) zs.length c) zs) : Go.Sort.HoldsK RV.cells 4 W g 0 zs.toArray := fun t ht => by
 rw [Go.Sort.size_flatK] at ht
 have hz : zs.toArray.size = zs.length := by simp
 obtain ⟨cl, hcl, hM, hcc, hff⟩ := Kd.R_elem hR (zs[0]'(by omega)) ((t / 4 : Nat) : Int) (by omega) (by omega)
 rw [Int.toNat_natCast] at hM hcc hff
 have hM' : cl = (zs.getD (t / 4) (zs[0]'(by omega))).cells := hM
 have ht4 : t / 4 < zs.length := by omega
 rw [flat_cells zs.toArray t (by omega)]
 have e1 : zs.toArray[t / 4]! = zs[t / 4] := by rw [getElem!_pos zs.toArray (t / 4) (by omega)]; simp
 have e2 : zs.getD (t / 4) (zs[0]'(by omega)) = zs[t / 4] := by rw [List.getD_eq_getElem?_getD, List.getElem?_eq_getElem ht4]; rfl
 rw [e1]
 rw [e2] at hM'
 have h4 : t % 4 < 4 := by omega
 have hlen : (zs[t / 4]).cells.length = 4 := rfl
 have hu : cl[t % 4]? = some ((zs[t / 4]).cells[t % 4]!) := by rw [hM', List.getElem?_eq_getElem (by omega), getElem!_pos _ _ (by omega)]
 have h1 := hcc (t % 4) _ hu
 have h2 := hff (t % 4)
 have e3 : t / 4 * (kRV w).sz + t % 4 = 0 + t := by show t / 4 * 4 + t % 4 = 0 + t; omega
 rw [e3] at h1 h2
 exact ⟨h1, h2⟩
theorem R_of_sort {w W : World} [Inhabited (RV w)] {base g c m : Nat} {ok : Nat → Prop} {zs : List (RV w)} (hR : (kRV w).R 39 W base ok (.slice (some ⟨g, 0, none⟩) zs.length c) zs) (hn : 0 < zs.length) (d : Array (RV w)) (hd : d.size = zs.length) (os : Array Obj) :
  (kRV w).R 39 (sortWorldK RV.cells 4 W g 0 m d os) base ok (.slice (some ⟨g, 0, none⟩) d.toList.length c) d.toList ∧ ∀ b, b < W.heap.size → b ≠ g → (sortWorldK RV.cells 4 W g 0 m d os).heap[b]? = W.heap[b]? := by
 obtain ⟨h0, inner, hown, hr⟩ := hR
 have hsz : (Go.Sort.flatK RV.cells 4 d).size = d.size * 4 := Go.Sort.size_flatK _ _ _
 rcases hown.2 with ⟨h1, _⟩ | ⟨g', cap, cur, he, hb, hh, hnc, hcm, hcs, ht⟩
 ·omega
 ·injection he with ha hx hc
  injection ha with ha
  injection ha with hg _
  subst hg
  subst hc
  have hgl : g < W.heap.size := blk_lt hh
  have hheap : ∀ b, b < W.heap.size → (sortWorldK RV.cells 4 W g 0 m d os).heap[b]? = if g = b then (W.heap[b]?).map (Go.Sort.onCells (Go.Sort.putCells id 0 (Go.Sort.flatK RV.cells 4 d))) else W.heap[b]? := fun b hbl => by
   show ((W.heap.modify g _) ++ os)[b]? = _
   rw [Array.getElem?_append_left (by simpa using hbl), Array.getElem?_modify]
  refine ⟨?_, fun b hbl hbg => by rw [hheap b hbl, if_neg (fun e => hbg e.symm)]⟩
  have hblk : (sortWorldK RV.cells 4 W g 0 m d os).heap[g]? = some (.cells (Go.Sort.putCells id 0 (Go.Sort.flatK RV.cells 4 d) cur) 39 (0, 0)) := by
   rw [hheap g hgl, if_pos rfl, hh]; rfl
  have hps : (Go.Sort.putCells id 0 (Go.Sort.flatK RV.cells 4 d) cur).size = cur.size := by simp [Go.Sort.putCells]
  refine ⟨fun k hk => h0 k (by simpa [Value.ownBlock] using hk), (Go.Sort.flatK RV.cells 4 d).toList, ⟨by rw [Array.length_toList, hsz, Array.length_toList]; rfl, .inr ⟨g, c, _, rfl, hb, hblk, by rw [Array.length_toList, hd]; exact hnc, hcm, by rw [hps]; exact hcs, ?_⟩⟩, ?_⟩
  ·have hcs4 : cur.size = c * 4 := hcs
   refine List.ext_getElem? (fun i => ?_)
   rw [List.getElem?_take, Array.length_toList]
   show (if i < d.size * 4 then _ else _) = _
   by_cases hi : i < d.size * 4
   ·rw [if_pos hi, Array.getElem?_toList, Array.getElem?_toList, Array.getElem?_eq_getElem (by omega), Array.getElem?_eq_getElem (by omega)]
    simp only [Go.Sort.putCells, Array.getElem_mapIdx]
    rw [if_pos ⟨Nat.zero_le _, by omega⟩, Nat.sub_zero, getElem!_pos _ _ (by omega)]
    rfl
   ·rw [if_neg hi, Array.getElem?_toList, Array.getElem?_eq_none (by omega)]
  ·refine ⟨by rw [Array.length_toList, hsz, Array.length_toList]; rfl, fun j p hj => ?_⟩
   exact flat_take d j p hj
theorem below_sort {w W : World} [Inhabited (RV w)] {g c m : Nat} {ok : Nat → Prop} {zs : List (RV w)} (hb : Below w.heap.size w W) (hR : (kRV w).R 39 W w.heap.size ok (.slice (some ⟨g, 0, none⟩) zs.length c) zs) (hn : 0 < zs.length) (d : Array (RV w)) (hd : d.size = zs.length) (os : Array Obj) : Below w.heap.size w (sortWorldK RV.cells 4 W g 0 m d os) := by
 have h := (R_of_sort (m := m) hR hn d hd os).2
 have hg : w.heap.size ≤ g := by
  obtain ⟨inner, hown⟩ := Kd.R_own hR
  exact own_base hown g (by simp [Value.ownBlock])
 refine ⟨hb.os, hb.tape, hb.output, ?_, fun k hk => (h k (Nat.lt_of_lt_of_le hk hb.size) (by omega)).trans (hb.block k hk)⟩
 show w.heap.size ≤ ((W.heap.modify g _) ++ os).size
 rw [Array.size_append, Array.size_modify]
 have := hb.size
 omega
theorem aggE (w : World) : (isAgg 39).run Try.prog w = .ok true w := by kernel_rfl
theorem sizeE (w : World) : (Go.sizeOf 39).run Try.prog w = .ok 4 w := by kernel_rfl
theorem sort_calls (w W : World) (A : Option Addr) (c : Nat) (zs : List (RV w)) (hb : Below w.heap.size w W) (hR : (kRV w).R 39 W w.heap.size (fun _ => True) (.slice A zs.length c) zs) (hlen : zs.length < 4611686018427387904) :
  Calls Try.prog 26 #[.slice A zs.length c, .func (.func 19) #[] #[]] W fun e w' => e = .returned (.tuple #[]) ∧
   ∃ zs' : List (RV w), zs'.Perm zs ∧ zs'.Pairwise (fun a b => ¬ cmpRow b.x a.x < 0) ∧ (kRV w).R 39 w' w.heap.size (fun _ => True) (.slice A zs'.length c) zs' ∧ Below w.heap.size w w' := by
 rcases Nat.eq_zero_or_pos zs.length with h0 | h0
 ·obtain rfl := List.length_eq_zero_iff.1 h0
  have h := AnyF.slices_SortFunc_none Try.sortRows A c (.func (.func 19) #[] #[]) W
  change Calls Try.prog 26 _ _ _ at h
  refine h.mono ?_
  rintro e w' ⟨rfl, rfl⟩
  exact ⟨rfl, [], List.Perm.refl _, List.Pairwise.nil, hR, hb⟩
 ·haveI : Inhabited (RV w) := ⟨zs[0]⟩
  obtain ⟨g, rfl⟩ : ∃ g, A = some ⟨g, 0, none⟩ := by
   obtain ⟨inner, hown⟩ := Kd.R_own hR
   obtain ⟨g, cap, e, _, _⟩ := hown.form (by omega)
   injection e with e _ _
   exact ⟨g, e⟩
  have hzs : zs.toArray.size = zs.length := by simp
  have eg : ∀ args w, (callFunc 19 args).run Try.prog w = .ok (.enter 19 args) w := enters_of Try.func19 (by kernel_rfl) rfl
  have hcmp : CmpLays Try.prog 19 #[] RV.cells 4 cfR g 0 zs.toArray.size W := fun m os dk hs x y => by
   have hbw := below_sort (m := m) hb hR h0 dk (by rw [hs, hzs]) os
   have h := compare_grows (sortWorldK RV.cells 4 W g 0 m dk os) x.x y.x x.A1 x.c1 x.A3 x.c3 y.A1 y.c1 y.A3 y.c3 (by have := x.b1; omega) x.l1 (Kd.C_below x.g1 hbw) y.l1 (Kd.C_below y.g1 hbw)
   exact h
  have hgl : g < W.heap.size := Kd.R_lt hR g (by simp [Value.ownBlock])
  have h := AnyQ.slices_SortFunc Try.sortRows 4 aggE sizeE RV.cells (fun _ => rfl) (fun x v hv => (kRV w).K_one (w := W) (x := x) (cs := x.cells) rfl v hv) cfR (swoR w) 19 #[] g 0 c zs.toArray W eg hcmp (holdsK_of_R hR) hgl (by rw [hzs]; exact hlen)
  change Calls Try.prog 26 _ _ _ at h
  rw [hzs] at h
  refine h.mono ?_
  rintro e w' ⟨rfl, d', n, os, hp, hs, rfl⟩
  have hds : d'.size = zs.length := hp.1.trans hzs
  refine ⟨rfl, d'.toList, ?_, ?_, (R_of_sort (m := n) hR h0 d' hds os).1, below_sort (m := n) hb hR h0 d' hds os⟩
  ·have h2 := hp.2.2
   have h3 : d'.toList.Perm (zs.take d'.size) := by simpa [← hds, hzs] using h2
   rwa [hds, List.take_length] at h3
  ·rw [List.pairwise_iff_getElem]
   intro i j hi hj hij
   have h3 := hs i j (Nat.zero_le _) hij (by rw [Array.length_toList] at hj; omega)
   rw [ltOf_not, getElem!_pos d' i (by simpa using hi), getElem!_pos d' j (by simpa using hj)] at h3
   simpa using h3
end Go.Proofs.Ytdeeffahfkndkaa.P
namespace Go.Proofs.Ytdeeffahfkndkaa.P
open Go.RowKit Go.Proofs.YtdeeffahfkndkaaW.PrintWords Go.Proofs.YtdeeffahfkndkaaW.PrintLast Go.Proofs.YtdeeffahfkndkaaW.PrintMore
set_option linter.unusedVariables false
set_option linter.unusedSimpArgs false
def statsE (l : List (List Row)) : Int × Int := if l.all sortedR = true then ((sumL l : Int), (keysN l.flatten : Int)) else (0, 0)
def merge_Stats.f (l : List (List Row)) : Option (Int × Int) := if ListsB l = true then some (statsE l) else none
theorem sumL_flatten (l : List (List Row)) : l.flatten.length = sumL l := by rw [List.length_flatten]; rfl
set_option maxHeartbeats 8000000 in
set_option maxRecDepth 100000 in
theorem merge_Stats.calls (A0 : Option Addr) (c0 : Nat) (l0 : List (List Row)) (r1 : Int) (r2 : Int) (w : World) (hr0 : Kd.C (Kd.slice 39 k39) w A0 l0.length l0) (hc0 : l0.length ≤ c0) (h : merge_Stats.f l0 = some (r1, r2)) :
  Calls Try.prog 11 #[.slice A0 l0.length c0] w fun e w' => e = .returned (.tuple #[.int .i64 r1, .int .i64 r2]) ∧ Below w.heap.size w w' := by
 unfold merge_Stats.f at h
 by_cases hb : ListsB l0 = true
 ·rw [if_pos hb] at h
  obtain ⟨hok, hsum⟩ := listsB_ok hb
  have HOK := Z0.mk hok
  have HSUM : Z0 (sumL l0 < 1099511627776) := ⟨hsum⟩
  have HA := Z0.mk (Option.some.inj h)
  have HC := Z0.mk hr0
  clear hok hsum h hr0 hb
  cases hs : l0.all sortedR with
  | false =>
   have hA := HA.out
   unfold statsE at hA
   rw [if_neg (by rw [hs]; decide)] at hA
   obtain ⟨rfl, rfl⟩ := Prod.mk.inj hA
   have HCT : Z0 (∀ W, Below w.heap.size w W → Calls Try.prog 23 #[.slice A0 l0.length c0, .func (.func 24) #[] #[]] W fun e w' => e = .returned (.bool true) ∧ Below W.heap.size W w') := ⟨fun W hW => (contains_calls W A0 c0 l0 (Kd.C_below HC.out hW) hc0 HOK.out).mono fun e w' hh => by rw [hs] at hh; exact hh⟩
   clear hA HA hs
   go_enter Try.func11, Try.ntmps11
   go_wp2_with (first
    | (go_at_call 22; refine (concat_calls w A0 c0 l0 HC.out hc0 HOK.out HSUM.out).mono ?_; rintro e w1 ⟨v, zs, rfl, hz, hR, hb1⟩; have HB1 := Z0.mk hb1; clear hz hR hb1)
    | (go_at_call 23; refine (HCT.out _ HB1.out).mono ?_; rintro e w2 ⟨rfl, hb2⟩; have HB2 := Z0.mk (below_then HB1.out hb2); clear hb2))
   go_ret2
   exact ⟨rfl, HB2.out⟩
  | true =>
   have hA := HA.out
   unfold statsE at hA
   rw [if_pos hs] at hA
   obtain ⟨e1, e2⟩ := Prod.mk.inj hA
   have HE1 := Z0.mk e1
   have HE2 := Z0.mk e2
   have HCT : Z0 (∀ W, Below w.heap.size w W → Calls Try.prog 23 #[.slice A0 l0.length c0, .func (.func 24) #[] #[]] W fun e w' => e = .returned (.bool false) ∧ Below W.heap.size W w') := ⟨fun W hW => (contains_calls W A0 c0 l0 (Kd.C_below HC.out hW) hc0 HOK.out).mono fun e w' hh => by rw [hs] at hh; exact hh⟩
   clear hA HA hs e1 e2
   go_enter Try.func11, Try.ntmps11
   go_wp2_with (first
    | (go_at_call 22; refine (concat_calls w A0 c0 l0 HC.out hc0 HOK.out HSUM.out).mono ?_; rintro e w1 ⟨v, zs, rfl, hz, hR, hb1⟩; obtain ⟨A, c, ev⟩ := Kd.R_slice hR; subst ev; have HB1 := Z0.mk hb1; have HR := Z0.mk hR; have HZ := Z0.mk hz; have HL : Z0 (zs.length = sumL l0) := ⟨by rw [← sumL_flatten, ← hz, List.length_map]⟩; clear hz hR hb1)
    | (go_at_call 23; refine (HCT.out _ HB1.out).mono ?_; rintro e w2 ⟨rfl, hb2⟩; have HB2 := Z0.mk (below_then HB1.out hb2); have HR2 := Z0.mk (Kd.R_below HR.out hb2); clear hb2 HR HB1)
    | (go_at_call 26; refine (sort_calls w _ A c zs HB2.out HR2.out (by have := HL.out; have := HSUM.out; omega)).mono ?_; rintro e w3 ⟨rfl, zs', hp, hso, hR3, hb3⟩; have hlen : zs'.length = zs.length := hp.length_eq; have HCL : Z0 (Calls Try.prog 28 #[.slice A zs.length c] w3 fun e w' => ∃ v : Value, e = .returned v ∧ (kRV w).R 39 w' w.heap.size (fun _ => True) v zs' ∧ Below w.heap.size w w') := ⟨by rw [← hlen]; exact clone_calls w w3 A c zs' hb3 hR3 (by have := HL.out; have := HSUM.out; omega)⟩; have HP := Z0.mk hp; have HSO := Z0.mk hso; have HLEN := Z0.mk hlen; clear hp hso hlen hR3 hb3 HR2 HB2)
    | (go_at_call 28; refine HCL.out.mono ?_; rintro e w4 ⟨v4, rfl, hR4, hb4⟩; obtain ⟨A4, c4, ev4⟩ := Kd.R_slice hR4; subst ev4; have HR4 := Z0.mk hR4; have HB4 := Z0.mk hb4; clear hR4 hb4 HCL)
    | (go_at_call 27; refine (compact_calls w _ A4 c4 zs' HB4.out HR4.out (by have := HLEN.out; have := HL.out; have := HSUM.out; omega)).mono ?_; rintro e w5 ⟨A5, c5, rfl, hb5⟩; have HB5 := Z0.mk hb5; clear hb5 HR4 HB4))
   go_ret2
   refine ⟨?_, HB5.out⟩
   have hk : runsN (zs'.map (·.x)) = keysN l0.flatten := by
    rw [runs_keys (by rw [List.pairwise_map]; exact HSO.out.imp (fun h => by omega)), ← HZ.out]
    exact keysN_perm (HP.out.map _)
   rw [← HE1.out, ← HE2.out, HL.out, hk]; rfl
 ·rw [if_neg hb] at h
  cases h
end Go.Proofs.Ytdeeffahfkndkaa.P
namespace Go.Proofs.Ytdeeffahfkndkaa.P
open Go.RowKit Go.Proofs.YtdeeffahfkndkaaW.PrintWords Go.Proofs.YtdeeffahfkndkaaW.PrintLast Go.Proofs.YtdeeffahfkndkaaW.PrintMore
set_option linter.unusedVariables false
set_option linter.unusedSimpArgs false
def columbarylaw15_alive.f : Option Bool := some true
def bsX : ByteArray := ⟨#[120]⟩
def bsA : ByteArray := ⟨#[97]⟩
def rA0 : Row := ⟨1, [bsX], 1, []⟩
def rA1 : Row := ⟨2, [bsX], 1, []⟩
def rB0 : Row := ⟨1, [bsA], 1, []⟩
def rB1 : Row := ⟨2, [bsX], 5, []⟩
def rJ1 : Row := ⟨2, [bsX], 6, []⟩
def liveL : List (List Row) := [[rA0, rA1], [rB0, rB1]]
theorem cmp_t {a b : Row} (h : a.f0 < b.f0) : cmpRow a b = -1 := by unfold cmpRow orI cmpI; rw [if_pos h, if_neg (by decide)]
theorem cmp_xa : cmpRow rA0 rB0 = 1 := by
 have h : cmpS bsX bsA = 1 := by
  unfold cmpS
  have h1 : bsX.toList = [120] := by rw [Lib.toList_data]; rfl
  have h2 : bsA.toList = [97] := by rw [Lib.toList_data]; rfl
  rw [h1, h2]
  decide
 show orI (cmpI 1 1) (if cmpS bsX bsA = 0 then _ else cmpS bsX bsA) = 1
 rw [h]; decide
theorem cmp_eq : cmpRow rA1 rB1 = 0 := (cmpRow_zero _ _).2 ⟨rfl, rfl⟩
theorem live_sorted : liveL.all sortedR = true := by
 have h1 : sortedR [rA0, rA1] = true := by unfold sortedR; rw [cmp_t (by decide)]; rfl
 have h2 : sortedR [rB0, rB1] = true := by unfold sortedR; rw [cmp_t (by decide)]; rfl
 unfold liveL
 rw [List.all_cons, List.all_cons, h1, h2]; rfl
theorem live_lists : listsE liveL = ([rB0, rA0, rJ1], 0) := by
 rw [listsE_fold live_sorted 0 (by intro r hr; simp only [liveL, List.flatten_cons, List.flatten_nil, List.append_nil, List.cons_append, List.nil_append, List.mem_cons, List.not_mem_nil, or_false] at hr; rcases hr with rfl | rfl | rfl | rfl <;> rfl)]
 have e1 : ins [] rA0 = some [rA0] := rfl
 have e2 : ins [rA0] rA1 = some [rA0, rA1] := by rw [ins_lt (by rw [cmp_t (by decide)]; decide)]; rfl
 have e3 : ins [rA0, rA1] rB0 = some [rB0, rA0, rA1] := ins_gt (by rw [cmp_xa]; decide)
 have ej : joinO rA1 rB1 = some rJ1 := by
  have e : joinE rA1 rB1 = (rJ1, 0) := by
   have hw : wrap64 (1 + 5) = 6 := IntWalk.wrap64_in _ ⟨by omega, by omega⟩
   unfold joinE
   rw [if_pos ⟨cmp_eq, rfl⟩]
   show (if wrap64 (1 + 5) > 1048576 then (z39, (121 : Int)) else (⟨2, [bsX], wrap64 (1 + 5), []⟩, 0)) = _
   rw [hw]; rfl
  unfold joinO
  rw [e]; rfl
 have e4 : ins [rB0, rA0, rA1] rB1 = some [rB0, rA0, rJ1] := by
  rw [ins_lt (by rw [cmp_t (by decide)]; decide), ins_lt (by rw [cmp_t (by decide)]; decide), ins_eq cmp_eq, ej]; rfl
 show (match foldI [] [rA0, rA1, rB0, rB1] with | some o => (o, (0 : Int)) | none => ([], 121)) = _
 simp only [foldI, e1, e2, e3, e4, Option.bind_some]
theorem live_stats : statsE liveL = (4, 3) := by
 unfold statsE
 rw [if_pos live_sorted]
 have k1 : keysN [rB1] = 1 := rfl
 have k2 : hasKey rB0 [rB1] = false := by unfold hasKey; rw [List.any_cons, cmp_t (by decide)]; rfl
 have k3 : hasKey rA1 [rB0, rB1] = true := hasKey_iff.2 ⟨rB1, by simp, cmp_eq⟩
 have k4 : hasKey rA0 [rA1, rB0, rB1] = false := by unfold hasKey; rw [List.any_cons, List.any_cons, List.any_cons, cmp_t (by decide), cmp_xa, cmp_t (by decide)]; rfl
 show ((4 : Int), ((keysN [rA0, rA1, rB0, rB1] : Nat) : Int)) = _
 rw [keysN, k4, keysN, k3, keysN, k2, k1]; rfl
theorem live_B : ListsB liveL = true := by
 unfold ListsB liveL
 simp only [List.length_cons, List.length_nil, List.map_cons, List.map_nil, List.sum_cons, List.sum_nil, List.all_cons, List.all_nil]
 have h : ∀ a b : Row, a.f1.length = 1 → b.f1.length = 1 → a.f3.length = 0 → b.f3.length = 0 → rows_Copy.ok [a, b] = true := fun a b h1 h2 h3 h4 => by
  simp [rows_Copy.ok, h1, h2, h3, h4]
 rw [h _ _ rfl rfl rfl rfl, h _ _ rfl rfl rfl rfl]; decide
theorem C_blk {α : Type} {d : Kd α} {W : World} {g e : Nat} {cells : Array Value} (h : W.heap[g]? = some (.cells cells e (0, 0))) (xs : List α) (hm : xs.length ≤ maxLen) (hr : ∀ j x, xs[j]? = some x → ∃ c, c.length = d.sz ∧ d.K W x c ∧ ∀ i u, c[i]? = some u → cells[j * d.sz + i]? = some u) : d.C W (some ⟨g, 0, none⟩) xs.length xs := by
 refine ⟨rfl, hm, fun _ => ⟨⟨g, 0, none⟩, rfl, fun j p hj => ?_⟩⟩
 obtain ⟨c, h1, h2, h3⟩ := hr j p hj
 refine ⟨c, h1, h2, fun i u hu => ?_⟩
 have h4 := (bCe h (j * d.sz + i)).trans (h3 i u hu)
 rwa [add_plain]
theorem str_C {W : World} {g : Nat} {s : ByteArray} (h : W.heap[g]? = some (.cells #[.string s] 9 (0, 0))) : Kd.string.C W (some ⟨g, 0, none⟩) 1 [s] :=
 C_blk (d := Kd.string) h [s] (by simp [maxLen]) (fun j x hj => by
  match j, hj with
  | 0, hj => cases hj; exact ⟨[.string s], rfl, rfl, fun i u hu => by
    match i, hu with
    | 0, hu => cases hu; rfl
    | i + 1, hu => simp at hu⟩
  | j + 1, hj => simp at hj)
theorem none_C {α : Type} (d : Kd α) (W : World) : d.C W none 0 [] := ⟨rfl, by decide, fun h => absurd h (by decide)⟩
def liveCells (g0 g1 : Nat) (n : Int) : Array Value := #[.int .i64 1, .slice (some ⟨g0, 0, none⟩) 1 1, .int .i64 1, .slice none 0 0, .int .i64 2, .slice (some ⟨g1, 0, none⟩) 1 1, .int .i64 n, .slice none 0 0]
theorem pair_C {W : World} {g0 g1 g2 : Nat} {s : ByteArray} {n : Int} (b0 : W.heap[g0]? = some (.cells #[.string s] 9 (0, 0))) (b1 : W.heap[g1]? = some (.cells #[.string bsX] 9 (0, 0))) (b2 : W.heap[g2]? = some (.cells (liveCells g0 g1 n) 39 (0, 0))) :
  k39.C W (some ⟨g2, 0, none⟩) 2 [⟨1, [s], 1, []⟩, ⟨2, [bsX], n, []⟩] :=
 C_blk (d := k39) b2 [⟨1, [s], 1, []⟩, ⟨2, [bsX], n, []⟩] (by simp [maxLen]) (fun j x hj => by
  match j, hj with
  | 0, hj => cases hj; exact ⟨_, rfl, k39_mk W ⟨1, [s], 1, []⟩ (A1 := some ⟨g0, 0, none⟩) (c1 := 1) (Nat.le_refl _) (str_C b0) (A3 := none) (c3 := 0) (Nat.le_refl _) (none_C _ _), fun i u hu => by
    match i, hu with
    | 0, hu => cases hu; rfl
    | 1, hu => cases hu; rfl
    | 2, hu => cases hu; rfl
    | 3, hu => cases hu; rfl
    | i + 4, hu => simp at hu⟩
  | 1, hj => cases hj; exact ⟨_, rfl, k39_mk W ⟨2, [bsX], n, []⟩ (A1 := some ⟨g1, 0, none⟩) (c1 := 1) (Nat.le_refl _) (str_C b1) (A3 := none) (c3 := 0) (Nat.le_refl _) (none_C _ _), fun i u hu => by
    match i, hu with
    | 0, hu => cases hu; rfl
    | 1, hu => cases hu; rfl
    | 2, hu => cases hu; rfl
    | 3, hu => cases hu; rfl
    | i + 4, hu => simp at hu⟩
  | j + 2, hj => simp at hj)
structure LiveB (b : Nat) (W : World) : Prop where
 b0 : W.heap[b]? = some (.cells #[.string bsX] 9 (0, 0))
 b1 : W.heap[b + 1]? = some (.cells #[.string bsX] 9 (0, 0))
 b2 : W.heap[b + 2]? = some (.cells (liveCells b (b + 1) 1) 39 (0, 0))
 b3 : W.heap[b + 3]? = some (.cells #[.string bsA] 9 (0, 0))
 b4 : W.heap[b + 4]? = some (.cells #[.string bsX] 9 (0, 0))
 b5 : W.heap[b + 5]? = some (.cells (liveCells (b + 3) (b + 4) 5) 39 (0, 0))
theorem LiveB.below {b : Nat} {W W' : World} (h : LiveB b W) (hb : Below W.heap.size W W') : LiveB b W' :=
 ⟨(hb.block _ (blk_lt h.b0)).trans h.b0, (hb.block _ (blk_lt h.b1)).trans h.b1, (hb.block _ (blk_lt h.b2)).trans h.b2, (hb.block _ (blk_lt h.b3)).trans h.b3, (hb.block _ (blk_lt h.b4)).trans h.b4, (hb.block _ (blk_lt h.b5)).trans h.b5⟩
theorem live_C {b : Nat} {W : World} (h : LiveB b W) {t : Nat} (ht : W.heap[t]? = some (.cells #[.slice (some ⟨b + 2, 0, none⟩) 2 2, .slice (some ⟨b + 5, 0, none⟩) 2 2] 28 (0, 0))) : Kd.C (Kd.slice 39 k39) W (some ⟨t, 0, none⟩) 2 liveL :=
 C_blk (d := Kd.slice 39 k39) ht liveL (by decide) (fun j x hj => by
  match j, hj with
  | 0, hj => cases hj; exact ⟨[.slice (some ⟨b + 2, 0, none⟩) 2 2], rfl, ⟨some ⟨b + 2, 0, none⟩, 2, rfl, Nat.le_refl _, pair_C h.b0 h.b1 h.b2⟩, fun i u hu => by
    match i, hu with
    | 0, hu => cases hu; rfl
    | i + 1, hu => simp at hu⟩
  | 1, hj => cases hj; exact ⟨[.slice (some ⟨b + 5, 0, none⟩) 2 2], rfl, ⟨some ⟨b + 5, 0, none⟩, 2, rfl, Nat.le_refl _, pair_C h.b3 h.b4 h.b5⟩, fun i u hu => by
    match i, hu with
    | 0, hu => cases hu; rfl
    | i + 1, hu => simp at hu⟩
  | j + 2, hj => simp [liveL] at hj)
theorem live_R {w1 : World} {b : Nat} {v : Value} (h : Kd.R k39 39 w1 b (fun _ => True) v [rB0, rA0, rJ1]) : ∃ g c h c1, v = .slice (some ⟨g, 0, none⟩) 3 c ∧ ∀ W', Below w1.heap.size w1 W' → W'.cell? ⟨g, 1, none⟩ = some (.slice (some ⟨h, 0, none⟩) 1 c1) ∧ W'.cell? ⟨h, 0, none⟩ = some (.string ⟨#[97]⟩) ∧ W'.cell? ⟨g, 10, none⟩ = some (.int .i64 6) := by
 obtain ⟨g, c, rfl, _, _, _⟩ := Kd.R_form h (by decide)
 obtain ⟨cl, _, hM, hcc, _⟩ := Kd.R_elem h z39 0 (by decide) (by decide)
 obtain ⟨cl2, _, hM2, hcc2, _⟩ := Kd.R_elem h z39 2 (by decide) (by decide)
 obtain ⟨v1, v3, rfl, g1, g3⟩ := k39_openM hM
 obtain ⟨u1, u3, rfl, f1, f3⟩ := k39_openM hM2
 obtain ⟨k, c1, rfl, _, _, _⟩ := Kd.R_form g1 (by decide)
 obtain ⟨cs, _, hs, hsc, _⟩ := Kd.R_elem g1 bsA 0 (by decide) (by decide)
 have e1 := hcc 1 _ rfl
 have e2 := hcc2 2 _ rfl
 have hs' : cs = [.string bsA] := hs
 subst hs'
 have e3 := hsc 0 _ rfl
 refine ⟨g, c, k, c1, rfl, fun W' hb => ⟨?_, ?_, ?_⟩⟩
 ·exact (hb.cell (p := ⟨g, 1, none⟩) (World.block_lt_of_cell? _ _ e1)).trans e1
 ·exact (hb.cell (p := ⟨k, 0, none⟩) (World.block_lt_of_cell? _ _ e3)).trans e3
 ·exact (hb.cell (p := ⟨g, 10, none⟩) (World.block_lt_of_cell? _ _ e2)).trans e2
def liveW (w : World) : World := (((((w.alloc (.cells #[.string bsX] 9)).alloc (.cells #[.string bsX] 9)).alloc (.cells (liveCells w.heap.size (w.heap.size + 1) 1) 39)).alloc (.cells #[.string bsA] 9)).alloc (.cells #[.string bsX] 9)).alloc (.cells (liveCells (w.heap.size + 3) (w.heap.size + 4) 5) 39)
theorem blk_at {W : World} {n : Nat} (h : W.heap.size = n) (cs : Array Value) (t : TypeId) : (W.alloc (.cells cs t)).heap[n]? = some (.cells cs t (0, 0)) := by subst h; exact blk_new _ _
theorem size_at {W : World} {n : Nat} (h : W.heap.size = n) (o : Obj) : (W.alloc o).heap.size = n + 1 := by subst h; simp
theorem live_W (w : World) : LiveB w.heap.size (liveW w) ∧ Below w.heap.size w (liveW w) ∧ (liveW w).heap.size = w.heap.size + 6 := by
 have s0 : w.heap.size = w.heap.size := rfl
 have s1 := size_at s0 (.cells #[.string bsX] 9)
 have s2 := size_at s1 (.cells #[.string bsX] 9)
 have s3 := size_at s2 (.cells (liveCells w.heap.size (w.heap.size + 1) 1) 39)
 have s4 := size_at s3 (.cells #[.string bsA] 9)
 have s5 := size_at s4 (.cells #[.string bsX] 9)
 have s6 := size_at s5 (.cells (liveCells (w.heap.size + 3) (w.heap.size + 4) 5) 39)
 refine ⟨⟨bAl (bAl (bAl (bAl (bAl (blk_at s0 _ _) _) _) _) _) _, bAl (bAl (bAl (bAl (blk_at s1 _ _) _) _) _) _, bAl (bAl (bAl (blk_at s2 _ _) _) _) _, bAl (bAl (blk_at s3 _ _) _) _, bAl (blk_at s4 _ _) _, blk_at s5 _ _⟩, ?_, s6⟩
 exact beA (beA (beA (beA (beA (beA (Below.refl _ _) _) _) _) _) _) _
set_option maxHeartbeats 8000000 in
set_option maxRecDepth 100000 in
theorem columbarylaw15_alive.calls (r : Bool) (w : World) (h : columbarylaw15_alive.f = some r) : Calls Try.prog 8 #[] w fun e w' => e = .returned (.bool r) ∧ Below w.heap.size w w' := by
 obtain rfl := Option.some.inj h
 clear h
 have HL : Z0 (∀ W, LiveB w.heap.size W → Below w.heap.size w W → ∀ n, W.heap.size = n → Calls Try.prog 9 #[.slice (some ⟨n, 0, none⟩) 2 2] (W.alloc (.cells #[.slice (some ⟨w.heap.size + 2, 0, none⟩) 2 2, .slice (some ⟨w.heap.size + 5, 0, none⟩) 2 2] 28)) fun e w' => ∃ g c h c1, e = .returned (.tuple #[.slice (some ⟨g, 0, none⟩) 3 c, .int .i64 0]) ∧ LiveB w.heap.size w' ∧ Below w.heap.size w w' ∧ ∀ W', Below w'.heap.size w' W' → W'.cell? ⟨g, 1, none⟩ = some (.slice (some ⟨h, 0, none⟩) 1 c1) ∧ W'.cell? ⟨h, 0, none⟩ = some (.string ⟨#[97]⟩) ∧ W'.cell? ⟨g, 10, none⟩ = some (.int .i64 6)) := ⟨fun W hL hb n hn => by
  refine (merge_Lists.calls (some ⟨n, 0, none⟩) 2 liveL [rB0, rA0, rJ1] 0 _ (live_C (hL.below (beA (Below.refl _ _) _)) (blk_at hn _ _)) (Nat.le_refl _) (by unfold merge_Lists.f; rw [if_pos live_B, live_lists])).mono ?_
  rintro e w' ⟨v, rfl, hR, hb2⟩
  obtain ⟨g, c, h, c1, rfl, hr⟩ := live_R hR
  exact ⟨g, c, h, c1, rfl, (hL.below (beA (Below.refl _ _) _)).below hb2, below_then (beA hb _) hb2, hr⟩⟩
 have HS : Z0 (∀ W, LiveB w.heap.size W → ∀ n, W.heap.size = n → Calls Try.prog 11 #[.slice (some ⟨n, 0, none⟩) 2 2] (W.alloc (.cells #[.slice (some ⟨w.heap.size + 2, 0, none⟩) 2 2, .slice (some ⟨w.heap.size + 5, 0, none⟩) 2 2] 28)) fun e w' => e = .returned (.tuple #[.int .i64 4, .int .i64 3]) ∧ Below W.heap.size W w') := ⟨fun W hL n hn => by
  refine (merge_Stats.calls (some ⟨n, 0, none⟩) 2 liveL 4 3 _ (live_C (hL.below (beA (Below.refl _ _) _)) (blk_at hn _ _)) (Nat.le_refl _) (by unfold merge_Stats.f; rw [if_pos live_B, live_stats])).mono ?_
  rintro e w' ⟨rfl, hb2⟩
  exact ⟨rfl, below_then (beA (Below.refl _ _) _) hb2⟩⟩
 have HW := Z0.mk (live_W w)
 go_enter Try.func8, Try.ntmps8
 go_wp2_with (first
  | (go_at_call 9; refine (HL.out (liveW w) HW.out.1 HW.out.2.1 _ HW.out.2.2).mono ?_; rintro e w1 ⟨g, c, h, c1, rfl, hL1, hb1, hr⟩; have HL1 := Z0.mk hL1; have HB1 := Z0.mk hb1; have HR1 := Z0.mk hr; clear hL1 hb1 hr)
  | (go_at_call 11; refine (HS.out w1 HL1.out _ rfl).mono ?_; rintro e w2 ⟨rfl, hb2⟩; obtain ⟨k0, k1, k2⟩ := HR1.out _ hb2; have HB2 := Z0.mk (below_then HB1.out hb2); clear hb2))
 go_ret
 exact ⟨rfl, HB2.out⟩
end Go.Proofs.Ytdeeffahfkndkaa.P
