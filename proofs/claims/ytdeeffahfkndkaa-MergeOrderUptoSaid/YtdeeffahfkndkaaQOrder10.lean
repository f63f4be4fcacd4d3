/- A part of the proof: lemmas and contracts of functions (printed or written by the session's program, and by hand), in dependency order. -/
import Derived.Test.YtdeeffahfkndkaaQOrder7
import Derived.Test.YtdeeffahfkndkaaQOrder8
import Derived.Test.YtdeeffahfkndkaaQOrder9
import Derived.RegionTactic
import Derived.BigRegion
import Derived.BigQuiet
namespace Go.Proofs.Ytdeeffahfkndkaa.P
open Go.RowKit Go.Proofs.YtdeeffahfkndkaaW.PrintWords Go.Proofs.YtdeeffahfkndkaaW.PrintLast Go.Proofs.YtdeeffahfkndkaaW.PrintMore
set_option linter.unusedVariables false
set_option linter.unusedSimpArgs false
theorem method_val (nm : String) (f : Nat) (fuel g : Nat) (v : Value) (w : World) (hf : (Array.find? (fun (x : Method) => x.name == nm) Try.t42.methods).map (fun m => (m.path, m.func)) = some (#[], some (f, false)))
  (hw : (Builtin.ssaWrapNilChk_ #[42] 42 #[.pointer (some ⟨g, 0, none⟩), strVal "", strVal ((nm.splitOn ".").getLast?.getD nm)]).run Try.prog w = .ok (.pointer (some ⟨g, 0, none⟩)) w)
  (h : w.cell? ⟨g, 0, none⟩ = some v) : (method (fuel + 1) 42 (.pointer (some ⟨g, 0, none⟩)) nm).run Try.prog w = .ok (f, v) w := by
 have hu := Try.underlying42
 obtain ⟨m, hm, e⟩ := Option.map_eq_some_iff.1 hf
 obtain ⟨e1, e2⟩ := Prod.mk.inj e
 clear hf e
 unfold method
 go_simp
 simp only [follow, receiverAt, Place.get]
 go_simp
theorem method_less (g : Nat) (v : Value) (w : World) (h : w.cell? ⟨g, 0, none⟩ = some v) : (method 237 42 (.pointer (some ⟨g, 0, none⟩)) "Less").run Try.prog w = .ok (101, v) w :=
 method_val _ _ _ _ _ _ (by kernel_rfl) (by kernel_rfl) h
theorem method_len (g : Nat) (v : Value) (w : World) (h : w.cell? ⟨g, 0, none⟩ = some v) : (method 237 42 (.pointer (some ⟨g, 0, none⟩)) "Len").run Try.prog w = .ok (17, v) w :=
 method_val _ _ _ _ _ _ (by kernel_rfl) (by kernel_rfl) h
theorem method_swap (g : Nat) (v : Value) (w : World) (h : w.cell? ⟨g, 0, none⟩ = some v) : (method 237 42 (.pointer (some ⟨g, 0, none⟩)) "Swap").run Try.prog w = .ok (104, v) w :=
 method_val _ _ _ _ _ _ (by kernel_rfl) (by kernel_rfl) h
theorem method_push (a : Addr) (w : World) : (method 237 42 (.pointer (some a)) "Push").run Try.prog w = .ok (103, .pointer (some a)) w := by kernel_rfl
theorem method_pop (a : Addr) (w : World) : (method 237 42 (.pointer (some a)) "Pop").run Try.prog w = .ok (102, .pointer (some a)) w := by kernel_rfl
end Go.Proofs.Ytdeeffahfkndkaa.P
namespace Go.Proofs.Ytdeeffahfkndkaa.P
open Go.RowKit Go.Proofs.YtdeeffahfkndkaaW.PrintWords Go.Proofs.YtdeeffahfkndkaaW.PrintLast Go.Proofs.YtdeeffahfkndkaaW.PrintMore
set_option linter.unusedVariables false
set_option linter.unusedSimpArgs false
def qslice {α : Type} (e : Nat) (d : Kd α) : Kd (List α) where
 sz := 1
 E := e :: d.E
 K := (Kd.slice e d).K
 M := fun w base ok xs cs => ∃ v, cs = [v] ∧ d.Q e w base ok v xs
 K_len := (Kd.slice e d).K_len
 K_one := (Kd.slice e d).K_one
 K_below := (Kd.slice e d).K_below
 K_of_M := by
  rintro w base ok x cs ⟨v, rfl, h⟩
  obtain ⟨A, c, rfl, hl, hr⟩ := Kd.Q_reads h
  exact ⟨A, c, rfl, hl, hr⟩
 M_mono := by
  rintro w base ok ok' x cs hok ⟨v, rfl, h⟩
  exact ⟨v, rfl, Kd.Q_mono h hok⟩
 M_bound := by
  rintro w base ok x cs ⟨v, rfl, h⟩
  exact ⟨v, rfl, Kd.Q_bound h⟩
 M_move := by
  rintro w w1 base ok x cs hm ⟨v, rfl, h⟩
  exact ⟨v, rfl, Kd.Q_move h hm⟩
 M_lower := by
  rintro w base base' ok x cs hb ⟨v, rfl, h⟩
  exact ⟨v, rfl, Kd.Q_lower h hb⟩
abbrev Cur := S64
abbrev Row := S39
def kq : Kd Cur := Kd.iso (Kd.pair (qslice 39 k39) (Kd.int .i64)) (fun x : Cur => (x.f0, x.f1))
theorem kq_openM {w : World} {base : Nat} {ok : Nat → Prop} {x : Cur} {cs : List Value} (h : kq.M w base ok x cs) : ∃ v0, cs = [v0, .int .i64 x.f1] ∧ k39.Q 39 w base ok v0 x.f0 := by
 obtain ⟨_, _, rfl, ⟨v0, rfl, g0⟩, rfl⟩ := h
 exact ⟨v0, rfl, g0⟩
theorem kq_mkM (w : World) (base : Nat) (ok : Nat → Prop) (x : Cur) {v0 : Value} (g0 : k39.Q 39 w base ok v0 x.f0) : kq.M w base ok x [v0, .int .i64 x.f1] := ⟨[v0], [.int .i64 x.f1], rfl, ⟨v0, rfl, g0⟩, rfl⟩
theorem kq_C {w : World} {A : Option Addr} {n : Nat} {xs : List Cur} (h : kq.C w A n xs) : k64.C w A n xs := h
structure Eff (base : Nat) (ok : Nat → Prop) (B : Nat) (w w' : World) : Prop where
 os : w'.os = w.os
 tape : w'.tape = w.tape
 output : w'.output = w.output
 size : w.heap.size ≤ w'.heap.size
 block : ∀ k, k < w.heap.size → (k < base ∨ (k ≠ B ∧ ¬ ok k) ∨ ∃ cells t, w.heap[k]? = some (.cells cells t (0, 0)) ∧ t ≠ 61 ∧ t ≠ 64) → w'.heap[k]? = w.heap[k]?
namespace Eff
theorem refl (base : Nat) (ok : Nat → Prop) (B : Nat) (w : World) : Eff base ok B w w := ⟨rfl, rfl, rfl, Nat.le_refl _, fun _ _ _ => rfl⟩
theorem trans {base : Nat} {ok : Nat → Prop} {B : Nat} {a b c : World} (h : Eff base ok B a b) (k : Eff base ok B b c) : Eff base ok B a c :=
 ⟨k.os.trans h.os, k.tape.trans h.tape, k.output.trans h.output, Nat.le_trans h.size k.size, fun i hi hk => by
  have e := h.block i hi hk
  refine (k.block i (Nat.lt_of_lt_of_le hi h.size) ?_).trans e
  rcases hk with hk | hk | ⟨cells, t, hc, h1, h2⟩
  ·exact .inl hk
  ·exact .inr (.inl hk)
  ·exact .inr (.inr ⟨cells, t, e.trans hc, h1, h2⟩)⟩
theorem of_below {base : Nat} {ok : Nat → Prop} {B : Nat} {w w' : World} (h : Below w.heap.size w w') : Eff base ok B w w' := ⟨h.os, h.tape, h.output, h.size, fun k hk _ => h.block k hk⟩
theorem below {base : Nat} {ok : Nat → Prop} {B : Nat} {w0 w w' : World} (h : Eff base ok B w w') (hb : Below base w0 w) (hle : base ≤ w.heap.size) : Below base w0 w' :=
 ⟨h.os.trans hb.os, h.tape.trans hb.tape, h.output.trans hb.output, Nat.le_trans hb.size h.size, fun k hk => (h.block k (Nat.lt_of_lt_of_le hk hle) (.inl hk)).trans (hb.block k hk)⟩
theorem drew {base : Nat} {ok : Nat → Prop} {B : Nat} {w w' : World} (h : Eff base ok B w w') : Eff base ok B w w'.drew := h.trans (of_below (below_drew (Below.refl _ _)))
theorem alloc {base : Nat} {ok : Nat → Prop} {B : Nat} {w w' : World} (h : Eff base ok B w w') (o : Obj) : Eff base ok B w (w'.alloc o) := h.trans (of_below (beA (Below.refl _ _) o))
theorem setCell {base : Nat} {ok : Nat → Prop} {B : Nat} {w w' : World} (h : Eff base ok B w w') {g t j : Nat} {cells : Array Value} (hc : w'.heap[g]? = some (.cells cells t (0, 0))) (ht : t = 61 ∨ t = 64) (hg : base ≤ g) (hs : g = B ∨ ok g) (u : Value) : Eff base ok B w (w'.setCell ⟨g, j, none⟩ u) := by
 refine h.trans ⟨rfl, rfl, rfl, by simp [World.setCell], fun k hk hkk => Below.heap_setCell w' ⟨g, j, none⟩ u k ?_⟩
 intro e
 have e : k = g := e
 subst e
 rcases hkk with hkk | hkk | ⟨cs, t', hc', h1, h2⟩
 ·omega
 ·rcases hs with hs | hs
  ·exact hkk.1 hs
  ·exact hkk.2 hs
 ·rw [hc] at hc'
  injection hc' with hc'
  injection hc' with _ hc'
  subst hc'
  rcases ht with ht | ht
  ·exact h1 ht
  ·exact h2 ht
theorem grown {base : Nat} {ok : Nat → Prop} {B : Nat} {w w' w2 : World} (h : Eff base ok B w w') {row : Option Nat} (hg : w'.grownBy w2 row) (hr : ∀ k, row = some k → base ≤ k ∧ ok k ∧ ∃ cells, w'.heap[k]? = some (.cells cells 64 (0, 0))) : Eff base ok B w w2 := by
 refine h.trans ⟨hg.os, hg.tape, hg.output, hg.size, fun k hk hkk => hg.block k hk (fun e => ?_)⟩
 obtain ⟨h1, h1', cells, h2⟩ := hr k e.symm
 rcases hkk with hkk | hkk | ⟨cs, t', hc', h3, h4⟩
 ·omega
 ·exact hkk.2 h1'
 ·rw [h2] at hc'
  injection hc' with hc'
  injection hc' with _ hc'
  exact h4 hc'.symm
theorem R {α : Type} {d : Kd α} {e base base' : Nat} {oke : Nat → Prop} {B : Nat} {w w' : World} {ok : Nat → Prop} {v : Value} {xs : List α} (h : Eff base oke B w w') (hR : d.R e w base' ok v xs) (ht : ∀ q, q ∈ e :: d.E → q ≠ 61 ∧ q ≠ 64) : d.R e w' base' ok v xs :=
 Kd.R_mono (Kd.R_step (Kd.R_bound hR) (fun k hk hlt => by
  obtain ⟨_, _, _, q, hq, cells, hc⟩ := hk
  exact h.block k hlt (.inr (.inr ⟨cells, q, hc, ht q hq⟩)))) (fun _ hk => hk.1)
theorem M {α : Type} {d : Kd α} {base base' : Nat} {oke : Nat → Prop} {B : Nat} {w w' : World} {ok : Nat → Prop} {x : α} {cs : List Value} (h : Eff base oke B w w') (hM : d.M w base' ok x cs) (ht : ∀ q, q ∈ d.E → q ≠ 61 ∧ q ≠ 64) : d.M w' base' ok x cs :=
 d.M_mono (fun _ hk => hk.1) (Kd.M_step (d.M_bound hM) (fun k hk hlt => by
  obtain ⟨_, _, _, q, hq, cells, hc⟩ := hk
  exact h.block k hlt (.inr (.inr ⟨cells, q, hc, ht q hq⟩))))
end Eff
def HS (w : World) (base : Nat) (ok : Nat → Prop) (B : Nat) (cs : List Cur) : Prop := base ≤ B ∧ ∃ v, w.heap[B]? = some (.cells #[v] 61 (0, 0)) ∧ kq.R 64 w base ok v cs
abbrev hval (B : Nat) : Value := .iface 42 (.pointer (some ⟨B, 0, none⟩))
def hd (a : Cur) : Row := a.f0.getD 0 z39
def lessC (a b : Cur) : Bool := decide (orI (cmpRow (hd a) (hd b)) (cmpI a.f1 b.f1) < 0)
def CurOk (a : Cur) : Prop := a.f0 ≠ [] ∧ ∀ r ∈ a.f0, r.f1.length < 4611686018427387904
theorem hd_mem {a : Cur} (h : CurOk a) : hd a ∈ a.f0 := by
 unfold hd
 cases hf : a.f0 with
 | nil => exact absurd hf h.1
 | cons x l => simp
theorem rdT_nat (cs : List Cur) (i : Nat) : rd_T64 cs (i : Int) = cs.getD i z64 := by simp [rd_T64]
theorem getD_mem (cs : List Cur) (i : Nat) (h : i < cs.length) : cs.getD i z64 ∈ cs := by rw [List.getD_eq_getElem?_getD, List.getElem?_eq_getElem h]; exact List.getElem_mem h
theorem less_ev (cs : List Cur) (hok : ∀ a ∈ cs, CurOk a) (i j : Nat) (hi : i < cs.length) (hj : j < cs.length) : Ev (fun k => merge_cursors_Less.f k cs (i : Int) (j : Int)) (lessC (cs.getD i z64) (cs.getD j z64)) := by
 have ha := hok _ (getD_mem cs i hi)
 have hb := hok _ (getD_mem cs j hj)
 generalize ea : cs.getD i z64 = a at ha ⊢
 generalize eb : cs.getD j z64 = b at hb ⊢
 obtain ⟨K1, h1⟩ := cmpRow_ev (hd a) (hd b) (ha.2 _ (hd_mem ha))
 obtain ⟨K2, h2⟩ := orI_ev (cmpRow (hd a) (hd b)) (cmpI a.f1 b.f1)
 have la : 0 < a.f0.length := List.length_pos_iff.2 ha.1
 have lb : 0 < b.f0.length := List.length_pos_iff.2 hb.1
 refine ⟨max K1 K2, fun k hk => ?_⟩
 have e1 := h1 k (by omega)
 have e2 := h2 k (by omega)
 show merge_cursors_Less.f k cs (i : Int) (j : Int) = some (lessC a b)
 unfold merge_cursors_Less.f
 rw [rdT_nat, rdT_nat, ea, eb, if_pos (by omega), if_pos (by omega), if_pos (by omega), if_pos (by omega), if_pos (by omega), if_pos (by omega)]
 have q1 : rd_T39 a.f0 0 = hd a := rfl
 have q2 : rd_T39 b.f0 0 = hd b := rfl
 rw [q1, q2]
 replace e1 : rows_Compare.f k (hd a).f0 (hd a).f1 (hd a).f2 (hd a).f3 (hd b).f0 (hd b).f1 (hd b).f2 (hd b).f3 = some (cmpRow (hd a) (hd b)) := e1
 replace e2 : cmp_Or_int.f k [cmpRow (hd a) (hd b), cmpI a.f1 b.f1] = some (orI (cmpRow (hd a) (hd b)) (cmpI a.f1 b.f1)) := e2
 rw [e1, Option.bind_some, cmpI_f, Option.bind_some, e2, Option.bind_some]
 rfl
theorem Less_calls (w : World) (base : Nat) (ok : Nat → Prop) (A : Option Addr) (n c : Nat) (cs : List Cur) (hR : kq.R 64 w base ok (.slice A n c) cs) (hok : ∀ a ∈ cs, CurOk a) (i j : Nat) (hi : i < cs.length) (hj : j < cs.length) :
  Calls Try.prog 101 #[.slice A n c, .int .i64 i, .int .i64 j] w fun e w' => e = .returned (.bool (lessC (cs.getD i z64) (cs.getD j z64))) ∧ Below w.heap.size w w' := by
 obtain ⟨k, hk⟩ := (less_ev cs hok i j hi hj).rounds
 obtain ⟨e, hc, hC⟩ := Kd.R_reads' hR
 subst e
 exact merge_cursors_Less.calls k A c cs i j _ w (kq_C hC) hc hk
set_option maxHeartbeats 4000000 in
set_option maxRecDepth 100000 in
theorem Len_calls (w : World) (A : Option Addr) (n c : Nat) : Calls Try.prog 17 #[.slice A n c] w fun e w' => e = .returned (.int .i64 n) ∧ w = w' := by
 go_enter Try.func17, Try.ntmps17
 go_wp2
 go_ret
 exact ⟨rfl, rfl⟩
end Go.Proofs.Ytdeeffahfkndkaa.P
namespace Go.Proofs.Ytdeeffahfkndkaa.P
open Go.RowKit Go.Proofs.YtdeeffahfkndkaaW.PrintWords Go.Proofs.YtdeeffahfkndkaaW.PrintLast Go.Proofs.YtdeeffahfkndkaaW.PrintMore
set_option linter.unusedVariables false
set_option linter.unusedSimpArgs false
set_option maxHeartbeats 4000000 in
set_option maxRecDepth 100000 in
theorem swap_walk (w : World) (g n c i j : Nat) (hi : i < n) (hj : j < n) (hn : n ≤ 9223372036854775807) (Ai Aj : Option Addr) (li lj ki kj : Nat) (pi pj : Int)
  (ci0 : w.cell? ⟨g, i * 2, none⟩ = some (.slice Ai li ki)) (ci1 : w.cell? ⟨g, i * 2 + 1, none⟩ = some (.int .i64 pi)) (cj0 : w.cell? ⟨g, j * 2, none⟩ = some (.slice Aj lj kj)) (cj1 : w.cell? ⟨g, j * 2 + 1, none⟩ = some (.int .i64 pj)) (hfr : ∀ k, w.frozen? ⟨g, k, none⟩ = false) (R : Ending → World → Prop)
  (hR : ∀ w', w' = ((((w.setCell ⟨g, i * 2, none⟩ (.slice Aj lj kj)).setCell ⟨g, i * 2 + 1, none⟩ (.int .i64 pj)).setCell ⟨g, j * 2, none⟩ (.slice Ai li ki)).setCell ⟨g, j * 2 + 1, none⟩ (.int .i64 pi)).drew → R (.returned (.tuple #[])) w') :
  Calls Try.prog 104 #[.slice (some ⟨g, 0, none⟩) n c, .int .i64 i, .int .i64 j] w R := by
 have k0 : (i : Int) < (n : Int) := by omega
 have k1 : (j : Int) < (n : Int) := by omega
 have k2 : (0 : Int) ≤ (i : Int) := by omega
 have k3 : (0 : Int) ≤ (j : Int) := by omega
 obtain ⟨v0, e0⟩ := cell?_setCell_some (w := w.setCell ⟨g, i * 2, none⟩ (.slice Aj lj kj)) (p := ⟨g, i * 2 + 1, none⟩) (x := .int .i64 pj) (q := ⟨g, j * 2, none⟩) (cell?_setCell_some (w := w) (p := ⟨g, i * 2, none⟩) (x := .slice Aj lj kj) (q := ⟨g, j * 2, none⟩) cj0).choose_spec
 obtain ⟨v1, e1⟩ := cell?_setCell_some (w := (w.setCell ⟨g, i * 2, none⟩ (.slice Aj lj kj)).setCell ⟨g, i * 2 + 1, none⟩ (.int .i64 pj)) (p := ⟨g, j * 2, none⟩) (x := .slice Ai li ki) (q := ⟨g, j * 2 + 1, none⟩)
  (cell?_setCell_some (w := w.setCell ⟨g, i * 2, none⟩ (.slice Aj lj kj)) (p := ⟨g, i * 2 + 1, none⟩) (x := .int .i64 pj) (q := ⟨g, j * 2 + 1, none⟩) (cell?_setCell_some (w := w) (p := ⟨g, i * 2, none⟩) (x := .slice Aj lj kj) (q := ⟨g, j * 2 + 1, none⟩) cj1).choose_spec).choose_spec
 go_enter Try.func104, Try.ntmps104
 go_wp2
 go_region
 go_end0
 exact hR _ rfl
theorem infoCur : (Try.prog.info? 64).map (fun i => (i.zero, i.size, i.bytes)) = some (some (.agg #[.slice none 0 0, .int .i64 0]), 2, 32) := by kernel_rfl
def swapC (cs : List Cur) (i j : Nat) : List Cur := (cs.set i (cs.getD j z64)).set j (cs.getD i z64)
theorem swapC_length (cs : List Cur) (i j : Nat) : (swapC cs i j).length = cs.length := by simp [swapC]
theorem kq_at {w : World} {base : Nat} {ok : Nat → Prop} {g n c : Nat} {cs : List Cur} (hR : kq.R 64 w base ok (.slice (some ⟨g, 0, none⟩) n c) cs) (i : Nat) (hi : i < cs.length) :
  ∃ A k, w.cell? ⟨g, i * 2, none⟩ = some (.slice A (cs.getD i z64).f0.length k) ∧ w.cell? ⟨g, i * 2 + 1, none⟩ = some (.int .i64 (cs.getD i z64).f1) ∧
   k39.Q 39 w base (fun k => ok k ∧ k ≠ g) (.slice A (cs.getD i z64).f0.length k) (cs.getD i z64).f0 ∧ (∀ j, w.frozen? ⟨g, j, none⟩ = false) := by
 have hn : n = cs.length := (Kd.R_reads' hR).1
 obtain ⟨ce, hcl, hM, hcc, hff⟩ := Kd.R_elem hR z64 (i : Int) (by omega) (by omega)
 rw [Int.toNat_natCast] at hM hcc
 obtain ⟨v0, rfl, hQ⟩ := kq_openM hM
 obtain ⟨A, k, rfl, hk⟩ := Kd.Q_slice hQ
 obtain ⟨inner, hown⟩ := Kd.R_own hR
 obtain ⟨cells, hb⟩ := own_typed hown g (by simp [Value.ownBlock])
 have h0 := hcc 0 _ rfl
 have h1 := hcc 1 _ rfl
 exact ⟨A, k, h0, h1, hQ, fun j => bFz hb j⟩
theorem swap_calls (w : World) (base : Nat) (ok : Nat → Prop) (A : Option Addr) (n c : Nat) (cs : List Cur) (hR : kq.R 64 w base ok (.slice A n c) cs) (i j : Nat) (hi : i < cs.length) (hj : j < cs.length) :
  Calls Try.prog 104 #[.slice A n c, .int .i64 i, .int .i64 j] w fun e w' => e = .returned (.tuple #[]) ∧ kq.R 64 w' base ok (.slice A n c) (swapC cs i j) ∧ w.grownBy w' (Value.slice A n c).ownBlock := by
 have hn : n = cs.length := (Kd.R_reads' hR).1
 obtain ⟨g, rfl⟩ : ∃ g, A = some ⟨g, 0, none⟩ := by
  obtain ⟨inner, hown⟩ := Kd.R_own hR
  obtain ⟨g, cap, e, _, _⟩ := hown.form (by omega)
  injection e with e _ _
  exact ⟨g, e⟩
 subst hn
 obtain ⟨Ai, ki, ci0, ci1, qi, hfr⟩ := kq_at hR i hi
 obtain ⟨Aj, kj, cj0, cj1, qj, _⟩ := kq_at hR j hj
 have hlen : cs.length ≤ 9223372036854775807 := (Kd.R_reads' hR).2.2.2.1
 refine swap_walk w g cs.length c i j hi hj hlen Ai Aj _ _ ki kj _ _ ci0 ci1 cj0 cj1 hfr _ ?_
 rintro w' rfl
 have e1 : ((w.setCell ⟨g, i * 2, none⟩ (.slice Aj (cs.getD j z64).f0.length kj)).setCell ⟨g, i * 2 + 1, none⟩ (.int .i64 (cs.getD j z64).f1)) = w.setCells g ((i : Int).toNat * kq.sz + 0) [.slice Aj (cs.getD j z64).f0.length kj, .int .i64 (cs.getD j z64).f1] := rfl
 have s1 := Kd.R_seg (okp := fun k => ok k ∧ k ≠ g) hR (i : Int) (by omega) (by omega) (c := [.slice Ai (cs.getD i z64).f0.length ki, .int .i64 (cs.getD i z64).f1]) (seg := [.slice Aj (cs.getD j z64).f0.length kj, .int .i64 (cs.getD j z64).f1]) (j := 0) rfl
  (fun q u hu => by
   match q, hu with
   | 0, hu => cases hu; exact ci0
   | 1, hu => cases hu; exact ci1
   | q + 2, hu => simp at hu) (by show 0 + 2 ≤ 2; omega) (x' := cs.getD j z64) (kq_mkM w base _ _ qj) (fun k hk => hk)
 rw [← e1] at s1
 obtain ⟨s1, g1⟩ := s1
 generalize hW : ((w.setCell ⟨g, i * 2, none⟩ (.slice Aj (cs.getD j z64).f0.length kj)).setCell ⟨g, i * 2 + 1, none⟩ (.int .i64 (cs.getD j z64).f1)) = W at s1 g1 ⊢
 rw [Int.toNat_natCast] at s1
 obtain ⟨A2, k2, c20, c21, _, _⟩ := kq_at s1 j (by simpa using hj)
 have e2 : ((W.setCell ⟨g, j * 2, none⟩ (.slice Ai (cs.getD i z64).f0.length ki)).setCell ⟨g, j * 2 + 1, none⟩ (.int .i64 (cs.getD i z64).f1)) = W.setCells g ((j : Int).toNat * kq.sz + 0) [.slice Ai (cs.getD i z64).f0.length ki, .int .i64 (cs.getD i z64).f1] := rfl
 have s2 := Kd.R_seg (okp := fun k => ok k ∧ k ≠ g) s1 (j : Int) (by omega) (by omega) (c := [.slice A2 ((cs.set i (cs.getD j z64)).getD j z64).f0.length k2, .int .i64 ((cs.set i (cs.getD j z64)).getD j z64).f1]) (seg := [.slice Ai (cs.getD i z64).f0.length ki, .int .i64 (cs.getD i z64).f1]) (j := 0) rfl
  (fun q u hu => by
   match q, hu with
   | 0, hu => cases hu; exact c20
   | 1, hu => cases hu; exact c21
   | q + 2, hu => simp at hu) (by show 0 + 2 ≤ 2; omega) (x' := cs.getD i z64) (kq_mkM W base _ _ (Kd.Q_grown qi g1 (fun k hk e => hk.2 (by injection e)))) (fun k hk => hk)
 rw [← e2] at s2
 obtain ⟨s2, g2⟩ := s2
 rw [Int.toNat_natCast] at s2
 exact ⟨rfl, Kd.R_drew s2, ⟨(g1.trans g2).os, (g1.trans g2).tape, (g1.trans g2).output, (g1.trans g2).size, (g1.trans g2).block⟩⟩
set_option maxHeartbeats 4000000 in
set_option maxRecDepth 100000 in
theorem push_calls (w : World) (base : Nat) (ok : Nat → Prop) (B : Nat) (cs : List Cur) (x : Cur) (A : Option Addr) (l c : Nat) (p : Int) (hp : p = x.f1) (hx : k39.Q 39 w base ok (.slice A l c) x.f0)
  (hS : HS w base ok B cs) (hfresh : ∀ k, w.heap.size ≤ k → ok k) (hl : cs.length < 1099511627776) :
  Calls Try.prog 103 #[.pointer (some ⟨B, 0, none⟩), .iface 64 (.agg #[.slice A l c, .int .i64 p])] w fun e w' => e = .returned (.tuple #[]) ∧ HS w' base ok B (cs ++ [x]) ∧ Eff base ok B w w' := by
 obtain ⟨hbB, v, hB, hR⟩ := hS
 have HV := Z0.mk hB
 have HR := Z0.mk hR
 have HX := Z0.mk hx
 have HF := Z0.mk hfresh
 have HP := Z0.mk hp
 have HBB := Z0.mk hbB
 have HL := Z0.mk hl
 clear hB hR hx hfresh hp hbB hl
 have hta : ∀ (v : Value) (W : World), (Instr.typeAssert (.iface 64 v) 20 64 false).run Try.prog W = .ok v W := fun v W => by rfl
 go_enter Try.func103, Try.ntmps103
 go_wp2
 refine start_ (n := 10) (S := fun w' => w'.cell? ⟨B, 0, none⟩ = some v) (ds := [7, 8, 9]) #[false, false, false, false, false, false, false, false, false, false] (by kernel_rfl) rfl rfl ((bCe HV.out 0).trans rfl) (fun hHeld => ?_)
 refine pure_ (i := 0) (N := some 4) (v := .pointer (some ⟨B, 0, none⟩)) (a' := ?aa1) #[true, false, false, false, false, false, false, false, false, false] rfl rfl (by kernel_rfl) (fun _ _ _ h => h) (Or.inl ⟨by rfl, ?hy1⟩) ?ha1 ?h1
 case hy1 => (intro w'; clear hHeld; go_simp)
 case ha1 => (show Act.put _ _ _ = _; simp only [Act.put, qA, qB, qC]; rfl)
 refine pure_ (i := 1) (N := some 5) (v := .pointer (some ⟨B, 0, none⟩)) (a' := ?aa2) #[true, true, false, false, false, false, false, false, false, false] rfl rfl (by kernel_rfl) (fun _ _ _ h => h) (Or.inl ⟨by rfl, ?hy2⟩) ?ha2 ?h2
 case hy2 => (intro w'; clear hHeld; go_simp)
 case ha2 => (show Act.put _ _ _ = _; simp only [Act.put, qA, qB, qC]; rfl)
 refine pure_ (i := 2) (N := some 6) (v := .pointer (some ⟨B, 0, none⟩)) (a' := ?aa3) #[true, true, true, false, false, false, false, false, false, false] rfl rfl (by kernel_rfl) (fun _ _ _ h => h) (Or.inl ⟨by rfl, ?hy3⟩) ?ha3 ?h3
 case hy3 => (intro w'; clear hHeld; go_simp)
 case ha3 => (show Act.put _ _ _ = _; simp only [Act.put, qA, qB, qC]; rfl)
 refine take_ (i := 3) (N := some 7) (v := v) (a' := ?aa4) #[true, true, true, true, false, false, false, false, false, false] rfl rfl (by kernel_rfl) (fun _ _ _ h => h) (Or.inl ⟨by rfl, ?hy4⟩) hHeld ?ha4 ?h4
 case hy4 => (rintro w' s0; clear hHeld; go_simp)
 case ha4 => (show Act.put _ _ _ = _; simp only [Act.put, qA, qB, qC]; rfl)
 refine pure_ (i := 4) (N := some 8) (v := .iface 64 (.agg #[.slice A l c, .int .i64 p])) (a' := ?aa5) #[true, true, true, true, true, false, false, false, false, false] rfl rfl (by kernel_rfl) (fun _ _ _ h => h) (Or.inl ⟨by rfl, ?hy5⟩) ?ha5 ?h5
 case hy5 => (intro w'; clear hHeld; go_simp)
 case ha5 => (show Act.put _ _ _ = _; simp only [Act.put, qA, qB, qC]; rfl)
 refine pure_ (i := 5) (N := some 9) (v := .agg #[.slice A l c, .int .i64 p]) (a' := ?aa6) #[true, true, true, true, true, true, false, false, false, false] rfl rfl (by kernel_rfl) (fun _ _ _ h => h) (Or.inl ⟨by rfl, ?hy6⟩) ?ha6 ?h6
 case hy6 => (intro w'; clear hHeld; go_simp)
 case ha6 => (show Act.put _ _ _ = _; simp only [Act.put, qA, qB, qC]; rfl)
 refine one_ (i := 6) (N := some 10) #[true, true, true, true, true, true, true, false, false, false] rfl rfl (by kernel_rfl) (by decide) (fun K hK => ?_)
 refine value_ (v := .slice (some ⟨w.heap.size, 0, none⟩) 1 1) (w1 := w.drew.alloc (.cells #[.slice A l c, .int .i64 p] 64)) (by rfl) rfl (by clear hHeld; go_simp) ?_
 refine hK.out _ _ ((bCe (bAl (bDr HV.out) _) 0).trans rfl) (fun _ => ?_)
 clear hK K
 refine last_chain [7, 8, 9] _ _ (by decide) (by decide) (by kernel_rfl) rfl ?_
 refine Kd.R_append kq (w0 := w) base rfl (.tmp 7) (.tmp 10) 61 64 (.agg #[.slice none 0 0, .int .i64 0]) 32 rfl Try.underlying61 infoCur rfl (by decide) (by decide) v cs x [.slice A l c, .int .i64 p] ok (fun k => ok k ∧ some k ≠ v.ownBlock) rfl rfl
  (by rw [HP.out]; exact kq_mkM _ _ _ _ (Kd.Q_drew (Kd.Q_apart' (e' := 64) HX.out (fun k hk => by obtain ⟨inner, hown⟩ := Kd.R_own HR.out; exact own_typed hown k hk) (by decide)))) (fun k hk => hk) (fun k hk => HF.out k hk) (Kd.R_drew HR.out) (below_drew (Below.refl base w)) (Nat.le_trans HBB.out (Nat.le_of_lt (blk_lt HV.out))) (by have := HL.out; omega) ?_
 intro v9 w9 hR9 hB9 hg9 hat9
 obtain ⟨A9, c9, e9⟩ := Kd.R_slice hR9
 subst e9
 have hne : some B ≠ v.ownBlock := Kd.R_ne HR.out HV.out (by decide)
 have hV9 := blk_grown (bDr HV.out) hg9 hne
 have hE9 : Eff base ok B w w9 := ((Eff.refl base ok B w).drew).grown hg9 (fun k hk => by
  obtain ⟨inner, hown⟩ := Kd.R_own HR.out
  exact ⟨own_base hown k hk, HR.out.1 k hk, own_typed hown k hk⟩)
 have HR9 := Z0.mk hR9
 have HV9 := Z0.mk hV9
 have HE9 := Z0.mk hE9
 clear hR9 hB9 hg9 hat9 hne hV9 hE9
 refine Kd.event_run (v := .pointer (some ⟨B, 0, none⟩)) (w1 := w9) rfl (by go_simp) ?_
 have hcell : w9.cell? ⟨B, 0, none⟩ = some v := (bCe HV9.out 0).trans rfl
 have hfro := bFz HV9.out 0
 refine store_event (t := 61) (p := 12) (w1 := w9.setCell ⟨B, 0, none⟩ (.slice A9 (cs ++ [x]).length c9)) rfl rfl rfl (by go_simp) ?_
 rintro w10 rfl
 refine wpList_nil ?_
 go_end0
 exact ⟨rfl, ⟨HBB.out, _, blk_put HV9.out 0 _ rfl, Kd.R_set HR9.out HV9.out (by decide) 0 _⟩, HE9.out.setCell HV9.out (.inl rfl) HBB.out (.inl rfl) _⟩
set_option maxHeartbeats 4000000 in
set_option maxRecDepth 100000 in
theorem popm_calls (w : World) (base : Nat) (ok : Nat → Prop) (B m : Nat) (cs : List Cur) (hS : HS w base ok B cs) (hm : cs.length = m + 1) :
  Calls Try.prog 102 #[.pointer (some ⟨B, 0, none⟩)] w fun e w' => ∃ A c, e = .returned (.iface 64 (.agg #[.slice A (cs.getD m z64).f0.length c, .int .i64 (cs.getD m z64).f1])) ∧
   k39.Q 39 w' base ok (.slice A (cs.getD m z64).f0.length c) (cs.getD m z64).f0 ∧ HS w' base ok B (cs.take m) ∧ Eff base ok B w w' := by
 obtain ⟨hbB, v, hB, hR⟩ := hS
 obtain ⟨A0, c0, e0⟩ := Kd.R_slice hR
 subst e0
 obtain ⟨g, eg⟩ : ∃ g, A0 = some ⟨g, 0, none⟩ := by
  obtain ⟨inner, hown⟩ := Kd.R_own hR
  obtain ⟨g, cap, e, _, _⟩ := hown.form (by omega)
  injection e with e _ _
  exact ⟨g, e⟩
 subst eg
 obtain ⟨A, k, ci0, ci1, qi, hfr⟩ := kq_at hR m (by omega)
 have hc0 : cs.length ≤ c0 := (Kd.R_reads' hR).2.1
 have hcm : cs.length ≤ 9223372036854775807 := (Kd.R_reads' hR).2.2.2.1
 rw [hm] at hc0 hcm hR hB
 have HV := Z0.mk hB
 have HR := Z0.mk hR
 have HX := Z0.mk qi
 have HBB := Z0.mk hbB
 have HM := Z0.mk hm
 have hcell : w.cell? ⟨B, 0, none⟩ = some (.slice (some ⟨g, 0, none⟩) (m + 1) c0) := (bCe hB 0).trans rfl
 have hfrB := bFz hB 0
 have hlt : B < w.heap.size := blk_lt hB
 have hne1 : B ≠ w.heap.size := Nat.ne_of_lt (blk_lt hB)
 have hne2 : w.heap.size ≠ B := Nat.ne_of_gt (blk_lt hB)
 clear hB hR qi hbB hm hfr
 go_enter Try.func102, Try.ntmps102
 go_wp2
 go_ret
 refine ⟨A, k, by simp, ?_, ⟨HBB.out, _, bAl (blk_put HV.out 0 _ rfl) _, ?_⟩, ((Eff.refl base ok B w).setCell HV.out (.inl rfl) HBB.out (.inl rfl) _).alloc _⟩
 ·exact Kd.Q_alloc (Kd.Q_set (Kd.Q_mono HX.out (fun k hk => hk.1)) HV.out (by decide) 0 _) _
 ·exact Kd.R_alloc (Kd.R_set (Kd.R_take HR.out (by have := HM.out; omega)) HV.out (by decide) 0 _) _
end Go.Proofs.Ytdeeffahfkndkaa.P
namespace Go.Proofs.Ytdeeffahfkndkaa.P
open Go.RowKit Go.Proofs.YtdeeffahfkndkaaW.PrintWords Go.Proofs.YtdeeffahfkndkaaW.PrintLast Go.Proofs.YtdeeffahfkndkaaW.PrintMore
set_option linter.unusedVariables false
set_option linter.unusedSimpArgs false
abbrev zC : Cur := z64
def leC (a b : Cur) : Prop := lessC b a = false
theorem lessC_iff (a b : Cur) : lessC a b = true ↔ cmpRow (hd a) (hd b) < 0 ∨ cmpRow (hd a) (hd b) = 0 ∧ a.f1 < b.f1 := by
 unfold lessC
 rw [decide_eq_true_eq, orI_neg]
 have : cmpI a.f1 b.f1 < 0 ↔ a.f1 < b.f1 := by unfold cmpI; (repeat' split) <;> omega
 rw [this]
theorem leC_iff (a b : Cur) : leC a b ↔ cmpRow (hd a) (hd b) < 0 ∨ cmpRow (hd a) (hd b) = 0 ∧ a.f1 ≤ b.f1 := by
 unfold leC
 rw [← Bool.not_eq_true, lessC_iff, cmpRow_swap (hd a) (hd b)]
 have := cmpRow_vals (hd a) (hd b)
 omega
theorem leC_refl (a : Cur) : leC a a := by rw [leC_iff]; exact .inr ⟨cmpRow_self _, Int.le_refl _⟩
theorem leC_trans {a b c : Cur} (h1 : leC a b) (h2 : leC b c) : leC a c := by
 rw [leC_iff] at *
 rcases h1 with h1 | ⟨h1, h1'⟩
 ·rcases h2 with h2 | ⟨h2, h2'⟩
  ·exact .inl (cmpRow_trans h1 h2)
  ·have := (cmpRow_key h2 (c := hd a)).2
   exact .inl (by omega)
 ·have e := (cmpRow_key h1 (c := hd c)).1
  rcases h2 with h2 | ⟨h2, h2'⟩
  ·exact .inl (by omega)
  ·exact .inr ⟨by omega, by omega⟩
theorem leC_of_less {a b : Cur} (h : lessC a b = true) : leC a b := by
 rw [leC_iff]
 rw [lessC_iff] at h
 omega
def HeapP (cs : List Cur) (n : Nat) : Prop := ∀ k, 0 < k → k < n → leC (cs.getD ((k - 1) / 2) zC) (cs.getD k zC)
def UpInv (cs : List Cur) (n j : Nat) : Prop := (∀ k, 0 < k → k < n → k ≠ j → leC (cs.getD ((k - 1) / 2) zC) (cs.getD k zC)) ∧ ∀ k, 0 < k → k < n → (k - 1) / 2 = j → 0 < j → leC (cs.getD ((j - 1) / 2) zC) (cs.getD k zC)
def DownInv (cs : List Cur) (n i : Nat) : Prop := (∀ k, 0 < k → k < n → (k - 1) / 2 ≠ i → leC (cs.getD ((k - 1) / 2) zC) (cs.getD k zC)) ∧ ∀ k, 0 < k → k < n → (k - 1) / 2 = i → 0 < i → leC (cs.getD ((i - 1) / 2) zC) (cs.getD k zC)
theorem swapC_get (cs : List Cur) (i j k : Nat) (hi : i < cs.length) (hj : j < cs.length) : (swapC cs i j).getD k zC = if k = j then cs.getD i zC else if k = i then cs.getD j zC else cs.getD k zC := by
 unfold swapC
 simp only [List.getD_eq_getElem?_getD, List.getElem?_set, List.length_set]
 by_cases h1 : k = j
 ·subst h1
  rw [if_pos rfl, if_pos rfl, if_pos (by omega)]
  rfl
 ·rw [if_neg (fun h => h1 h.symm), if_neg h1]
  by_cases h2 : k = i
  ·subst h2
   rw [if_pos rfl, if_pos rfl, if_pos (by omega)]
   rfl
  ·rw [if_neg (fun h => h2 h.symm), if_neg h2]
theorem swapC_perm (cs : List Cur) (i j : Nat) (hi : i < cs.length) (hj : j < cs.length) : (swapC cs i j).Perm cs := by
 unfold swapC
 rw [List.getD_eq_getElem?_getD, List.getD_eq_getElem?_getD, List.getElem?_eq_getElem hi, List.getElem?_eq_getElem hj]
 exact List.set_set_perm hi hj
theorem up_start (cs : List Cur) (x : Cur) (h : HeapP cs cs.length) : UpInv (cs ++ [x]) (cs.length + 1) cs.length := by
 refine ⟨fun k h0 h1 h2 => ?_, fun k h0 h1 h2 h3 => by omega⟩
 have hk : k < cs.length := by omega
 have := h k h0 hk
 rw [List.getD_eq_getElem?_getD, List.getD_eq_getElem?_getD, List.getElem?_append_left (by omega), List.getElem?_append_left hk, ← List.getD_eq_getElem?_getD, ← List.getD_eq_getElem?_getD]
 exact this
theorem up_done0 {cs : List Cur} {n : Nat} (h : UpInv cs n 0) : HeapP cs n := fun k h0 h1 => h.1 k h0 h1 (by omega)
theorem up_done {cs : List Cur} {n j : Nat} (h : UpInv cs n j) (hl : leC (cs.getD ((j - 1) / 2) zC) (cs.getD j zC)) : HeapP cs n := fun k h0 h1 => by
 by_cases e : k = j
 ·subst e; exact hl
 ·exact h.1 k h0 h1 e
theorem up_step {cs : List Cur} {j : Nat} (h : UpInv cs cs.length j) (h0 : 0 < j) (hj : j < cs.length) (hl : lessC (cs.getD j zC) (cs.getD ((j - 1) / 2) zC) = true) : UpInv (swapC cs ((j - 1) / 2) j) cs.length ((j - 1) / 2) := by
 have hi : (j - 1) / 2 < cs.length := by omega
 have hle := leC_of_less hl
 have g := fun k => swapC_get cs ((j - 1) / 2) j k hi hj
 refine ⟨fun k k0 k1 k2 => ?_, fun k k0 k1 k2 k3 => ?_⟩
 ·rw [g, g]
  by_cases e1 : k = j
  ·subst e1
   rw [if_neg (by omega), if_pos rfl, if_pos rfl]
   exact hle
  ·rw [if_neg e1, if_neg k2]
   by_cases e2 : (k - 1) / 2 = j
   ·rw [if_pos e2]
    exact h.2 k k0 k1 e2 h0
   ·rw [if_neg e2]
    have hk := h.1 k k0 k1 e1
    by_cases e3 : (k - 1) / 2 = (j - 1) / 2
    ·rw [if_pos e3]
     rw [e3] at hk
     exact leC_trans hle hk
    ·rw [if_neg e3]
     exact hk
 ·have hp := h.1 ((j - 1) / 2) k3 hi (by omega)
  rw [g, g, if_neg (by omega), if_neg (by omega)]
  by_cases e1 : k = j
  ·rw [if_pos e1]
   exact hp
  ·rw [if_neg e1, if_neg (by omega)]
   have hk := h.1 k k0 k1 e1
   rw [k2] at hk
   exact leC_trans hp hk
theorem down_start {cs : List Cur} {n : Nat} (h : HeapP cs (n + 1)) (hn : cs.length = n + 1) : DownInv (swapC cs 0 n) n 0 := by
 refine ⟨fun k h0 h1 h2 => ?_, fun k h0 h1 h2 h3 => by omega⟩
 rw [swapC_get _ _ _ _ (by omega) (by omega), swapC_get _ _ _ _ (by omega) (by omega), if_neg (by omega), if_neg h2, if_neg (by omega), if_neg (by omega)]
 exact h k h0 (by omega)
theorem down_end {cs : List Cur} {n i : Nat} (h : DownInv cs n i) (hi : n ≤ 2 * i + 1) : HeapP cs n := fun k h0 h1 => h.1 k h0 h1 (by omega)
theorem down_done {cs : List Cur} {n i j : Nat} (h : DownInv cs n i) (hm : ∀ k, 0 < k → k < n → (k - 1) / 2 = i → leC (cs.getD j zC) (cs.getD k zC)) (hl : leC (cs.getD i zC) (cs.getD j zC)) : HeapP cs n := fun k h0 h1 => by
 by_cases e : (k - 1) / 2 = i
 ·rw [e]
  exact leC_trans hl (hm k h0 h1 e)
 ·exact h.1 k h0 h1 e
theorem down_step {cs : List Cur} {n i j : Nat} (h : DownInv cs n i) (hn : n ≤ cs.length) (hj0 : 0 < j) (hj : j < n) (hp : (j - 1) / 2 = i) (hm : ∀ k, 0 < k → k < n → (k - 1) / 2 = i → leC (cs.getD j zC) (cs.getD k zC)) (hl : lessC (cs.getD j zC) (cs.getD i zC) = true) : DownInv (swapC cs i j) n j := by
 have hle := leC_of_less hl
 have g := fun k => swapC_get cs i j k (by omega) (by omega)
 refine ⟨fun k k0 k1 k2 => ?_, fun k k0 k1 k2 k3 => ?_⟩
 ·rw [g, g, if_neg k2]
  by_cases e1 : (k - 1) / 2 = i
  ·rw [if_pos e1]
   by_cases e2 : k = j
   ·rw [if_pos e2]
    exact hle
   ·rw [if_neg e2, if_neg (by omega)]
    exact hm k k0 k1 e1
  ·rw [if_neg e1, if_neg (by omega : ¬ k = j)]
   by_cases e3 : k = i
   ·rw [if_pos e3]
    subst e3
    exact h.2 j hj0 hj hp k0
   ·rw [if_neg e3]
    exact h.1 k k0 k1 e1
 ·rw [g, g, if_neg (by omega), if_pos hp, if_neg (by omega), if_neg (by omega)]
  have := h.1 k k0 k1 (by omega)
  rw [k2] at this
  exact this
theorem root_least {cs : List Cur} {n : Nat} (h : HeapP cs n) : ∀ k, k < n → leC (cs.getD 0 zC) (cs.getD k zC) := by
 intro k
 induction k using Nat.strongRecOn with
 | _ k ih =>
  intro hk
  by_cases e : k = 0
  ·subst e; exact leC_refl _
  ·exact leC_trans (ih ((k - 1) / 2) (by omega) (by omega)) (h k (by omega) hk)
end Go.Proofs.Ytdeeffahfkndkaa.P
namespace Go.Proofs.Ytdeeffahfkndkaa.P
open Go.RowKit Go.Proofs.YtdeeffahfkndkaaW.PrintWords Go.Proofs.YtdeeffahfkndkaaW.PrintLast Go.Proofs.YtdeeffahfkndkaaW.PrintMore
set_option linter.unusedVariables false
set_option linter.unusedSimpArgs false
set_option maxHeartbeats 8000000 in
set_option maxRecDepth 100000 in
theorem up_calls (w : World) (base : Nat) (ok : Nat → Prop) (B j : Nat) (cs : List Cur) (hS : HS w base ok B cs) (hok : ∀ a ∈ cs, CurOk a) (hj : j < cs.length) (hinv : UpInv cs cs.length j) :
  Calls Try.prog 54 #[hval B, .int .i64 j] w fun e w' => e = .returned (.tuple #[]) ∧ ∃ cs', HS w' base ok B cs' ∧ cs'.Perm cs ∧ HeapP cs' cs'.length ∧ Eff base ok B w w' := by
 obtain ⟨hbB, v, hB, hR⟩ := hS
 obtain ⟨A, c, e0⟩ := Kd.R_slice hR
 subst e0
 have hjm : (j : Int) ≤ 9223372036854775807 := by
  have := (Kd.R_reads' hR).2.2.2.1
  omega
 have HBB := Z0.mk hbB
 have HJ := Z0.mk hj
 have H0 : Z0 (w.heap[B]? = some (.cells #[.slice A cs.length c] 61 (0, 0)) ∧ kq.R 64 w base ok (.slice A cs.length c) cs ∧ cs.Perm cs ∧ UpInv cs cs.length j ∧ Eff base ok B w w) := ⟨hB, hR, List.Perm.refl _, hinv, Eff.refl _ _ _ _⟩
 have HOK := Z0.mk hok
 clear hB hR hinv hok hbB hj
 have hmL : ∀ W : World, W.cell? ⟨B, 0, none⟩ = some (.slice A cs.length c) → (method 237 42 (.pointer (some ⟨B, 0, none⟩)) "Less").run Try.prog W = .ok (101, .slice A cs.length c) W := fun W h => method_less B _ W h
 have hmS : ∀ W : World, W.cell? ⟨B, 0, none⟩ = some (.slice A cs.length c) → (method 237 42 (.pointer (some ⟨B, 0, none⟩)) "Swap").run Try.prog W = .ok (104, .slice A cs.length c) W := fun W h => method_swap B _ W h
 go_enter Try.func54, Try.ntmps54
 go_wp2
 go_loopg [1] (j + 1) (fun kq1 v1 w' => ∃ (j1 : Nat) (cs1 : List Cur), v1 = .int .i64 (j1 : Int) ∧ j1 < kq1 ∧ j1 < cs.length ∧ (j1 : Int) ≤ 9223372036854775807 ∧ Z0 (w'.heap[B]? = some (.cells #[.slice A cs.length c] 61 (0, 0)) ∧ kq.R 64 w' base ok (.slice A cs.length c) cs1 ∧ cs1.Perm cs ∧ UpInv cs1 cs1.length j1 ∧ Eff base ok B w w'))
 case atStart => exact ⟨j, cs, rfl, Nat.lt_succ_self j, HJ.out, hjm, H0⟩
 case round =>
  clear H0
  obtain ⟨j1, cs1, rfl, hjk, hjc, hjm1, HA⟩ := hrel
  cases gk with
  | zero => exact absurd hjk (by omega)
  | succ k1 =>
   have hw1 : IntKind.i64.wrap ((j1 : Int) - 1) = (j1 : Int) - 1 := by rw [i64_w]; exact IntWalk.wrap64_in _ ⟨by omega, by omega⟩
   have hcell := (bCe HA.out.1 0).trans (rfl : _ = some (Value.slice A cs.length c))
   have hlen : cs1.length = cs.length := HA.out.2.2.1.length_eq
   by_cases e : j1 = 0
   ·subst e
    have e1 : ((((0 : Nat) : Int) - 1).tdiv 2) = 0 := by decide
    go_wp2
    go_end0
    exact ⟨rfl, cs1, ⟨HBB.out, _, HA.out.1, HA.out.2.1⟩, HA.out.2.2.1, up_done0 HA.out.2.2.2.1, HA.out.2.2.2.2⟩
   ·obtain ⟨p, hp⟩ : ∃ p : Nat, (j1 - 1) / 2 = p := ⟨_, rfl⟩
    have e1 : ((j1 : Int) - 1).tdiv 2 = (p : Int) := by rw [Int.tdiv_eq_ediv_of_nonneg (by omega)]; omega
    have e2 : IntKind.i64.wrap (p : Int) = (p : Int) := by rw [i64_w]; exact IntWalk.wrap64_in _ ⟨by omega, by omega⟩
    have e3 : decide ((p : Int) = (j1 : Int)) = false := decide_eq_false (by omega)
    have e4 : decide (p = j1) = false := decide_eq_false (by omega)
    have hpj : p < j1 := by omega
    cases hl : lessC (cs1.getD j1 z64) (cs1.getD p z64) with
    | false =>
     go_wp2_with (go_at_call 101; refine (Less_calls _ base ok A cs.length c cs1 HA.out.2.1 (fun a ha => HOK.out a (HA.out.2.2.1.mem_iff.1 ha)) j1 p (by omega) (by omega)).mono ?_; rw [hl]; rintro e w1 ⟨rfl, hb1⟩)
     go_end0
     exact ⟨rfl, cs1, ⟨HBB.out, _, (hb1.block B (blk_lt HA.out.1)).trans HA.out.1, Kd.R_below HA.out.2.1 hb1⟩, HA.out.2.2.1, up_done HA.out.2.2.2.1 (by rw [hp]; exact hl), HA.out.2.2.2.2.trans (Eff.of_below hb1)⟩
    | true =>
     go_wp2_with (go_at_call 101; refine (Less_calls _ base ok A cs.length c cs1 HA.out.2.1 (fun a ha => HOK.out a (HA.out.2.2.1.mem_iff.1 ha)) j1 p (by omega) (by omega)).mono ?_; rw [hl]; rintro e w1 ⟨rfl, hb1⟩; have hcell1 := (hb1.cell (World.block_lt_of_cell? _ _ hcell)).trans hcell)
     go_wp2_with (go_at_call 104; refine (swap_calls _ base ok A cs.length c cs1 (Kd.R_below HA.out.2.1 hb1) p j1 (by omega) (by omega)).mono ?_; rintro e w2 ⟨rfl, hR2, hg2⟩)
     go_roundg k1
     case measure => exact Nat.lt_succ_self _
     case rel =>
      have hb0 := (hb1.block B (blk_lt HA.out.1)).trans HA.out.1
      have hne : some B ≠ (Value.slice A cs.length c).ownBlock := Kd.R_ne (Kd.R_below HA.out.2.1 hb1) hb0 (by decide)
      have hp2 : (swapC cs1 p j1).Perm cs1 := swapC_perm cs1 p j1 (by omega) (by omega)
      refine ⟨p, swapC cs1 p j1, rfl, by omega, by omega, by omega, ⟨blk_grown hb0 hg2 hne, hR2, hp2.trans HA.out.2.2.1, ?_, (HA.out.2.2.2.2.trans (Eff.of_below hb1)).grown hg2 (fun k hk => ?_)⟩⟩
      ·have := up_step HA.out.2.2.2.1 (by omega) (by omega) (by rw [hp]; exact hl)
       rw [hp] at this
       rw [swapC_length]
       exact this
      ·have hRk := Kd.R_below HA.out.2.1 hb1
       obtain ⟨inner, hown⟩ := Kd.R_own hRk
       exact ⟨own_base hown k hk, hRk.1 k hk, own_typed hown k hk⟩
end Go.Proofs.Ytdeeffahfkndkaa.P
namespace Go.Proofs.Ytdeeffahfkndkaa.P
open Go.RowKit Go.Proofs.YtdeeffahfkndkaaW.PrintWords Go.Proofs.YtdeeffahfkndkaaW.PrintLast Go.Proofs.YtdeeffahfkndkaaW.PrintMore
set_option linter.unusedVariables false
set_option linter.unusedSimpArgs false
def SameFrom (n : Nat) (cs1 cs : List Cur) : Prop := ∀ k, n ≤ k → cs1.getD k zC = cs.getD k zC
set_option maxHeartbeats 20000000 in
set_option maxRecDepth 100000 in
theorem down_calls (w : World) (base : Nat) (ok : Nat → Prop) (B n : Nat) (cs : List Cur) (hS : HS w base ok B cs) (hok : ∀ a ∈ cs, CurOk a) (hn : n ≤ cs.length) (hL : cs.length < 1099511627776) (hinv : DownInv cs n 0) :
  Calls Try.prog 57 #[hval B, .int .i64 0, .int .i64 n] w fun e w' => ∃ b cs', e = .returned (.bool b) ∧ HS w' base ok B cs' ∧ cs'.Perm cs ∧ HeapP cs' n ∧ SameFrom n cs' cs ∧ Eff base ok B w w' := by
 obtain ⟨hbB, v, hB, hR⟩ := hS
 obtain ⟨A, c, e0⟩ := Kd.R_slice hR
 subst e0
 have HBB := Z0.mk hbB
 have H0 : Z0 (w.heap[B]? = some (.cells #[.slice A cs.length c] 61 (0, 0)) ∧ kq.R 64 w base ok (.slice A cs.length c) cs ∧ cs.Perm cs ∧ DownInv cs n 0 ∧ SameFrom n cs cs ∧ Eff base ok B w w) := ⟨hB, hR, List.Perm.refl _, hinv, fun _ _ => rfl, Eff.refl _ _ _ _⟩
 have HOK := Z0.mk hok
 clear hB hR hinv hok hbB
 have hmL : ∀ W : World, W.cell? ⟨B, 0, none⟩ = some (.slice A cs.length c) → (method 237 42 (.pointer (some ⟨B, 0, none⟩)) "Less").run Try.prog W = .ok (101, .slice A cs.length c) W := fun W h => method_less B _ W h
 have hmS : ∀ W : World, W.cell? ⟨B, 0, none⟩ = some (.slice A cs.length c) → (method 237 42 (.pointer (some ⟨B, 0, none⟩)) "Swap").run Try.prog W = .ok (104, .slice A cs.length c) W := fun W h => method_swap B _ W h
 go_enter Try.func57, Try.ntmps57
 go_wp2
 go_loopg [7] (n + 1) (fun kq1 v1 w' => ∃ (i1 : Nat) (cs1 : List Cur), v1 = .int .i64 (i1 : Int) ∧ n - i1 < kq1 ∧ i1 ≤ n ∧ Z0 (w'.heap[B]? = some (.cells #[.slice A cs.length c] 61 (0, 0)) ∧ kq.R 64 w' base ok (.slice A cs.length c) cs1 ∧ cs1.Perm cs ∧ DownInv cs1 n i1 ∧ SameFrom n cs1 cs ∧ Eff base ok B w w'))
 case atStart => exact ⟨0, cs, rfl, by omega, Nat.zero_le _, H0⟩
 case round =>
  clear H0
  obtain ⟨i1, cs1, rfl, hik, hin, HA⟩ := hrel
  cases gk with
  | zero => exact absurd hik (by omega)
  | succ k1 =>
   obtain ⟨a, ha⟩ : ∃ a : Nat, a = 2 * i1 + 1 := ⟨_, rfl⟩
   obtain ⟨b, hb⟩ : ∃ b : Nat, b = a + 1 := ⟨_, rfl⟩
   have hw1 : IntKind.i64.wrap (2 * (i1 : Int)) = 2 * (i1 : Int) := by rw [i64_w]; exact IntWalk.wrap64_in _ ⟨by omega, by omega⟩
   have hw2 : IntKind.i64.wrap (2 * (i1 : Int) + 1) = (a : Int) := by rw [i64_w]; exact (IntWalk.wrap64_in _ ⟨by omega, by omega⟩).trans (by omega)
   have hw3 : IntKind.i64.wrap ((a : Int) + 1) = (b : Int) := by rw [i64_w]; exact (IntWalk.wrap64_in _ ⟨by omega, by omega⟩).trans (by omega)
   have hcell := (bCe HA.out.1 0).trans (rfl : _ = some (Value.slice A cs.length c))
   have hlen : cs1.length = cs.length := HA.out.2.2.1.length_eq
   have n0 : decide ((a : Int) < 0) = false := decide_eq_false (by omega)
   have hia : i1 < a := by omega
   have hab : a < b := by omega
   have HAe := Z0.mk ha
   have HBe := Z0.mk hb
   clear ha hb
   by_cases c1 : a < n
   ·have n1 : decide ((n : Int) ≤ (a : Int)) = false := decide_eq_false (by omega)
    have n1' : decide (n ≤ a) = false := decide_eq_false (by omega)
    by_cases c2 : b < n
    ·have n2 : decide ((b : Int) < (n : Int)) = true := decide_eq_true (by omega)
     have n2' : decide (b < n) = true := decide_eq_true (by omega)
     cases hl2 : lessC (cs1.getD b z64) (cs1.getD a z64) with
     | true =>
      have hmin : ∀ k, 0 < k → k < n → (k - 1) / 2 = i1 → leC (cs1.getD b zC) (cs1.getD k zC) := fun k k0 k1 k2 => by
       have ha := HAe.out
       have hb := HBe.out
       by_cases e : k = b
       ·subst e; exact leC_refl _
       ·obtain rfl : k = a := by omega
        exact leC_of_less hl2
      cases hl : lessC (cs1.getD b z64) (cs1.getD i1 z64) with
      | false =>
        go_wp2_with (first | (go_at_call_of 101 (Value.int .i64 (a : Int)); refine (Less_calls _ base ok A cs.length c cs1 HA.out.2.1 (fun a ha => HOK.out a (HA.out.2.2.1.mem_iff.1 ha)) b a (by omega) (by omega)).mono ?_; rw [hl2]; rintro e wy ⟨rfl, hy⟩; have hcell := (hy.cell (World.block_lt_of_cell? _ _ hcell)).trans hcell) | (go_at_call_of 101 (Value.int .i64 (i1 : Int)); refine (Less_calls _ base ok A cs.length c cs1 (Kd.R_below HA.out.2.1 hy) (fun a ha => HOK.out a (HA.out.2.2.1.mem_iff.1 ha)) b i1 (by omega) (by omega)).mono ?_; rw [hl]; rintro e wz ⟨rfl, hz⟩; have hcell := (hz.cell (World.block_lt_of_cell? _ _ hcell)).trans hcell))
        go_ret
        exact ⟨_, cs1, rfl, ⟨HBB.out, _, (hz.block B (blk_lt ((hy.block B (blk_lt HA.out.1)).trans HA.out.1))).trans ((hy.block B (blk_lt HA.out.1)).trans HA.out.1), Kd.R_below (Kd.R_below HA.out.2.1 hy) hz⟩, HA.out.2.2.1, down_done HA.out.2.2.2.1 hmin hl, HA.out.2.2.2.2.1, HA.out.2.2.2.2.2.trans ((Eff.of_below hy).trans (Eff.of_below hz))⟩
      | true =>
        go_wp2_with (first | (go_at_call_of 101 (Value.int .i64 (a : Int)); refine (Less_calls _ base ok A cs.length c cs1 HA.out.2.1 (fun a ha => HOK.out a (HA.out.2.2.1.mem_iff.1 ha)) b a (by omega) (by omega)).mono ?_; rw [hl2]; rintro e wy ⟨rfl, hy⟩; have hcell := (hy.cell (World.block_lt_of_cell? _ _ hcell)).trans hcell) | (go_at_call_of 101 (Value.int .i64 (i1 : Int)); refine (Less_calls _ base ok A cs.length c cs1 (Kd.R_below HA.out.2.1 hy) (fun a ha => HOK.out a (HA.out.2.2.1.mem_iff.1 ha)) b i1 (by omega) (by omega)).mono ?_; rw [hl]; rintro e wz ⟨rfl, hz⟩; have hcell := (hz.cell (World.block_lt_of_cell? _ _ hcell)).trans hcell))
        go_wp2_with (go_at_call 104; refine (swap_calls _ base ok A cs.length c cs1 (Kd.R_below (Kd.R_below HA.out.2.1 hy) hz) i1 b (by omega) (by omega)).mono ?_; rintro e w2 ⟨rfl, hR2, hg2⟩)
        go_roundg k1
        case measure => exact Nat.lt_succ_self _
        case rel =>
         have ha := HAe.out
         have hb := HBe.out
         have hb0 := (hz.block B (blk_lt ((hy.block B (blk_lt HA.out.1)).trans HA.out.1))).trans ((hy.block B (blk_lt HA.out.1)).trans HA.out.1)
         have hne : some B ≠ (Value.slice A cs.length c).ownBlock := Kd.R_ne (Kd.R_below (Kd.R_below HA.out.2.1 hy) hz) hb0 (by decide)
         refine ⟨b, swapC cs1 i1 b, rfl, by omega, by omega, ⟨blk_grown hb0 hg2 hne, hR2, (swapC_perm cs1 i1 b (by omega) (by omega)).trans HA.out.2.2.1, down_step HA.out.2.2.2.1 (by omega) (by omega) (by omega) (by omega) hmin hl, fun k hk => ?_, (HA.out.2.2.2.2.2.trans ((Eff.of_below hy).trans (Eff.of_below hz))).grown hg2 (fun k hk => ?_)⟩⟩
         ·rw [swapC_get _ _ _ _ (by omega) (by omega), if_neg (by omega), if_neg (by omega)]
          exact HA.out.2.2.2.2.1 k hk
         ·have hRk := Kd.R_below (Kd.R_below HA.out.2.1 hy) hz
          obtain ⟨inner, hown⟩ := Kd.R_own hRk
          exact ⟨own_base hown k hk, hRk.1 k hk, own_typed hown k hk⟩
     | false =>
      have hmin : ∀ k, 0 < k → k < n → (k - 1) / 2 = i1 → leC (cs1.getD a zC) (cs1.getD k zC) := fun k k0 k1 k2 => by
       have ha := HAe.out
       have hb := HBe.out
       by_cases e : k = a
       ·subst e; exact leC_refl _
       ·obtain rfl : k = b := by omega
        exact hl2
      cases hl : lessC (cs1.getD a z64) (cs1.getD i1 z64) with
      | false =>
        go_wp2_with (first | (go_at_call_of 101 (Value.int .i64 (b : Int)); refine (Less_calls _ base ok A cs.length c cs1 HA.out.2.1 (fun a ha => HOK.out a (HA.out.2.2.1.mem_iff.1 ha)) b a (by omega) (by omega)).mono ?_; rw [hl2]; rintro e wy ⟨rfl, hy⟩; have hcell := (hy.cell (World.block_lt_of_cell? _ _ hcell)).trans hcell) | (go_at_call_of 101 (Value.int .i64 (i1 : Int)); refine (Less_calls _ base ok A cs.length c cs1 (Kd.R_below HA.out.2.1 hy) (fun a ha => HOK.out a (HA.out.2.2.1.mem_iff.1 ha)) a i1 (by omega) (by omega)).mono ?_; rw [hl]; rintro e wz ⟨rfl, hz⟩; have hcell := (hz.cell (World.block_lt_of_cell? _ _ hcell)).trans hcell))
        go_ret
        exact ⟨_, cs1, rfl, ⟨HBB.out, _, (hz.block B (blk_lt ((hy.block B (blk_lt HA.out.1)).trans HA.out.1))).trans ((hy.block B (blk_lt HA.out.1)).trans HA.out.1), Kd.R_below (Kd.R_below HA.out.2.1 hy) hz⟩, HA.out.2.2.1, down_done HA.out.2.2.2.1 hmin hl, HA.out.2.2.2.2.1, HA.out.2.2.2.2.2.trans ((Eff.of_below hy).trans (Eff.of_below hz))⟩
      | true =>
        go_wp2_with (first | (go_at_call_of 101 (Value.int .i64 (b : Int)); refine (Less_calls _ base ok A cs.length c cs1 HA.out.2.1 (fun a ha => HOK.out a (HA.out.2.2.1.mem_iff.1 ha)) b a (by omega) (by omega)).mono ?_; rw [hl2]; rintro e wy ⟨rfl, hy⟩; have hcell := (hy.cell (World.block_lt_of_cell? _ _ hcell)).trans hcell) | (go_at_call_of 101 (Value.int .i64 (i1 : Int)); refine (Less_calls _ base ok A cs.length c cs1 (Kd.R_below HA.out.2.1 hy) (fun a ha => HOK.out a (HA.out.2.2.1.mem_iff.1 ha)) a i1 (by omega) (by omega)).mono ?_; rw [hl]; rintro e wz ⟨rfl, hz⟩; have hcell := (hz.cell (World.block_lt_of_cell? _ _ hcell)).trans hcell))
        go_wp2_with (go_at_call 104; refine (swap_calls _ base ok A cs.length c cs1 (Kd.R_below (Kd.R_below HA.out.2.1 hy) hz) i1 a (by omega) (by omega)).mono ?_; rintro e w2 ⟨rfl, hR2, hg2⟩)
        go_roundg k1
        case measure => exact Nat.lt_succ_self _
        case rel =>
         have ha := HAe.out
         have hb := HBe.out
         have hb0 := (hz.block B (blk_lt ((hy.block B (blk_lt HA.out.1)).trans HA.out.1))).trans ((hy.block B (blk_lt HA.out.1)).trans HA.out.1)
         have hne : some B ≠ (Value.slice A cs.length c).ownBlock := Kd.R_ne (Kd.R_below (Kd.R_below HA.out.2.1 hy) hz) hb0 (by decide)
         refine ⟨a, swapC cs1 i1 a, rfl, by omega, by omega, ⟨blk_grown hb0 hg2 hne, hR2, (swapC_perm cs1 i1 a (by omega) (by omega)).trans HA.out.2.2.1, down_step HA.out.2.2.2.1 (by omega) (by omega) (by omega) (by omega) hmin hl, fun k hk => ?_, (HA.out.2.2.2.2.2.trans ((Eff.of_below hy).trans (Eff.of_below hz))).grown hg2 (fun k hk => ?_)⟩⟩
         ·rw [swapC_get _ _ _ _ (by omega) (by omega), if_neg (by omega), if_neg (by omega)]
          exact HA.out.2.2.2.2.1 k hk
         ·have hRk := Kd.R_below (Kd.R_below HA.out.2.1 hy) hz
          obtain ⟨inner, hown⟩ := Kd.R_own hRk
          exact ⟨own_base hown k hk, hRk.1 k hk, own_typed hown k hk⟩
    ·have n2 : decide ((b : Int) < (n : Int)) = false := decide_eq_false (by omega)
     have n2' : decide (b < n) = false := decide_eq_false (by omega)
     have hmin : ∀ k, 0 < k → k < n → (k - 1) / 2 = i1 → leC (cs1.getD a zC) (cs1.getD k zC) := fun k k0 k1 k2 => by
      have ha := HAe.out
      have hb := HBe.out
      obtain rfl : k = a := by omega
      exact leC_refl _
     cases hl : lessC (cs1.getD a z64) (cs1.getD i1 z64) with
     | false =>
       go_wp2_with (first  | (go_at_call_of 101 (Value.int .i64 (i1 : Int)); refine (Less_calls _ base ok A cs.length c cs1 HA.out.2.1 (fun a ha => HOK.out a (HA.out.2.2.1.mem_iff.1 ha)) a i1 (by omega) (by omega)).mono ?_; rw [hl]; rintro e wz ⟨rfl, hz⟩; have hcell := (hz.cell (World.block_lt_of_cell? _ _ hcell)).trans hcell))
       go_ret
       exact ⟨_, cs1, rfl, ⟨HBB.out, _, (hz.block B (blk_lt HA.out.1)).trans HA.out.1, Kd.R_below HA.out.2.1 hz⟩, HA.out.2.2.1, down_done HA.out.2.2.2.1 hmin hl, HA.out.2.2.2.2.1, HA.out.2.2.2.2.2.trans (Eff.of_below hz)⟩
     | true =>
       go_wp2_with (first  | (go_at_call_of 101 (Value.int .i64 (i1 : Int)); refine (Less_calls _ base ok A cs.length c cs1 HA.out.2.1 (fun a ha => HOK.out a (HA.out.2.2.1.mem_iff.1 ha)) a i1 (by omega) (by omega)).mono ?_; rw [hl]; rintro e wz ⟨rfl, hz⟩; have hcell := (hz.cell (World.block_lt_of_cell? _ _ hcell)).trans hcell))
       go_wp2_with (go_at_call 104; refine (swap_calls _ base ok A cs.length c cs1 (Kd.R_below HA.out.2.1 hz) i1 a (by omega) (by omega)).mono ?_; rintro e w2 ⟨rfl, hR2, hg2⟩)
       go_roundg k1
       case measure => exact Nat.lt_succ_self _
       case rel =>
        have ha := HAe.out
        have hb := HBe.out
        have hb0 := (hz.block B (blk_lt HA.out.1)).trans HA.out.1
        have hne : some B ≠ (Value.slice A cs.length c).ownBlock := Kd.R_ne (Kd.R_below HA.out.2.1 hz) hb0 (by decide)
        refine ⟨a, swapC cs1 i1 a, rfl, by omega, by omega, ⟨blk_grown hb0 hg2 hne, hR2, (swapC_perm cs1 i1 a (by omega) (by omega)).trans HA.out.2.2.1, down_step HA.out.2.2.2.1 (by omega) (by omega) (by omega) (by omega) hmin hl, fun k hk => ?_, (HA.out.2.2.2.2.2.trans (Eff.of_below hz)).grown hg2 (fun k hk => ?_)⟩⟩
        ·rw [swapC_get _ _ _ _ (by omega) (by omega), if_neg (by omega), if_neg (by omega)]
         exact HA.out.2.2.2.2.1 k hk
        ·have hRk := Kd.R_below HA.out.2.1 hz
         obtain ⟨inner, hown⟩ := Kd.R_own hRk
         exact ⟨own_base hown k hk, hRk.1 k hk, own_typed hown k hk⟩
   ·have n1 : decide ((n : Int) ≤ (a : Int)) = true := decide_eq_true (by omega)
    have n1' : decide (n ≤ a) = true := decide_eq_true (by omega)
    go_wp2
    go_ret
    exact ⟨_, cs1, rfl, ⟨HBB.out, _, HA.out.1, HA.out.2.1⟩, HA.out.2.2.1, down_end HA.out.2.2.2.1 (by have := HAe.out; omega), HA.out.2.2.2.2.1, HA.out.2.2.2.2.2⟩
end Go.Proofs.Ytdeeffahfkndkaa.P
namespace Go.Proofs.Ytdeeffahfkndkaa.P
open Go.RowKit Go.Proofs.YtdeeffahfkndkaaW.PrintWords Go.Proofs.YtdeeffahfkndkaaW.PrintLast Go.Proofs.YtdeeffahfkndkaaW.PrintMore
set_option linter.unusedVariables false
set_option linter.unusedSimpArgs false
set_option maxHeartbeats 8000000 in
set_option maxRecDepth 100000 in
theorem heapPush_calls (w : World) (base : Nat) (ok : Nat → Prop) (B : Nat) (cs : List Cur) (x : Cur) (A : Option Addr) (l c : Nat) (p : Int) (hp : p = x.f1) (hx : k39.Q 39 w base ok (.slice A l c) x.f0)
  (hS : HS w base ok B cs) (hfresh : ∀ k, w.heap.size ≤ k → ok k) (hl : cs.length < 1099511627776) (hok : ∀ a ∈ cs, CurOk a) (hokx : CurOk x) (hh : HeapP cs cs.length) :
  Calls Try.prog 36 #[hval B, .iface 64 (.agg #[.slice A l c, .int .i64 p])] w fun e w' => e = .returned (.tuple #[]) ∧ ∃ cs', HS w' base ok B cs' ∧ cs'.Perm (x :: cs) ∧ HeapP cs' cs'.length ∧ Eff base ok B w w' := by
 have HX := Z0.mk hx
 have HS0 := Z0.mk hS
 have HF := Z0.mk hfresh
 have HP := Z0.mk hp
 have HL := Z0.mk hl
 have HOK := Z0.mk hok
 have HOX := Z0.mk hokx
 have HH := Z0.mk hh
 clear hx hS hfresh hp hl hok hokx hh
 have hm : ∀ W : World, (method 237 42 (.pointer (some ⟨B, 0, none⟩)) "Push").run Try.prog W = .ok (103, .pointer (some ⟨B, 0, none⟩)) W := fun W => method_push _ W
 obtain ⟨n1, hn1⟩ : ∃ n1, n1 = (cs ++ [x]).length := ⟨_, rfl⟩
 have hw1 : IntKind.i64.wrap ((n1 : Int) - 1) = ((cs.length : Nat) : Int) := by
  have := HL.out
  simp only [List.length_append, List.length_singleton] at hn1
  rw [i64_w]; exact (IntWalk.wrap64_in _ ⟨by omega, by omega⟩).trans (by omega)
 have HN := Z0.mk hn1
 clear hn1
 have HI : Z0 (UpInv (cs ++ [x]) (cs ++ [x]).length cs.length) := ⟨by have := up_start cs x HH.out; simpa using this⟩
 have HO : Z0 (∀ a ∈ cs ++ [x], CurOk a) := ⟨fun a ha => by
  rcases List.mem_append.1 ha with ha | ha
  ·exact HOK.out a ha
  ·rw [List.mem_singleton.1 ha]; exact HOX.out⟩
 have HLT : Z0 (cs.length < (cs ++ [x]).length) := ⟨by simp⟩
 go_enter Try.func36, Try.ntmps36
 go_wp2_with (go_at_call 103; refine (push_calls _ base ok B cs x A l c p HP.out HX.out HS0.out HF.out HL.out).mono ?_; rintro e w1 ⟨rfl, hS1, hE1⟩; obtain ⟨hb1, v1, hB1, hR1⟩ := hS1; obtain ⟨A1, c1, ev1⟩ := Kd.R_slice hR1; rw [← HN.out] at ev1; subst ev1; have hmn := method_len B _ w1 ((bCe hB1 0).trans rfl); have HB1 := Z0.mk hB1; have HR1 := Z0.mk hR1; have HE1 := Z0.mk hE1; clear hB1 hR1 hE1)
 go_wp2_with (first
  | (go_at_call 17; refine (Len_calls _ A1 n1 c1).mono ?_; rintro e w2 ⟨rfl, rfl⟩)
  | (go_at_call 54; refine (up_calls _ base ok B cs.length (cs ++ [x]) ⟨hb1, _, HB1.out, HR1.out⟩ HO.out HLT.out HI.out).mono ?_; rintro e w3 ⟨rfl, cs', h1, h2, h3, h4⟩))
 go_end0
 exact ⟨rfl, cs', h1, h2.trans List.perm_append_comm, h3, HE1.out.trans h4⟩
theorem take_get {cs : List Cur} {m : Nat} (hm : cs.length = m + 1) : cs = cs.take m ++ [cs.getD m zC] := by
 have h : cs.getD m zC = cs[m] := by rw [List.getD_eq_getElem?_getD, List.getElem?_eq_getElem (by omega)]; rfl
 rw [h, List.take_append_getElem, List.take_of_length_le (by omega)]
theorem heap_take {cs : List Cur} {m : Nat} (h : HeapP cs m) : HeapP (cs.take m) m := fun k h0 h1 => by
 have e := fun j (hj : j < m) => (show (cs.take m).getD j zC = cs.getD j zC by rw [List.getD_eq_getElem?_getD, List.getD_eq_getElem?_getD, List.getElem?_take_of_lt hj])
 rw [e _ (by omega), e _ h1]
 exact h k h0 h1
theorem least_mem {cs : List Cur} (h : HeapP cs cs.length) (a : Cur) (ha : a ∈ cs) : leC (cs.getD 0 zC) a := by
 obtain ⟨k, hk, e⟩ := List.getElem_of_mem ha
 have := root_least h k hk
 have h2 : cs.getD k zC = a := by rw [List.getD_eq_getElem?_getD, List.getElem?_eq_getElem hk]; exact e
 rwa [h2] at this
set_option maxHeartbeats 8000000 in
set_option maxRecDepth 100000 in
theorem heapPop_calls (w : World) (base : Nat) (ok : Nat → Prop) (B m : Nat) (cs : List Cur) (hS : HS w base ok B cs) (hm : cs.length = m + 1) (hL : cs.length < 1099511627776) (hok : ∀ a ∈ cs, CurOk a) (hh : HeapP cs cs.length) :
  Calls Try.prog 38 #[hval B] w fun e w' => ∃ A c x cs', e = .returned (.iface 64 (.agg #[.slice A x.f0.length c, .int .i64 x.f1])) ∧
   k39.Q 39 w' base ok (.slice A x.f0.length c) x.f0 ∧ HS w' base ok B cs' ∧ (x :: cs').Perm cs ∧ (∀ a ∈ cs, leC x a) ∧ HeapP cs' cs'.length ∧ Eff base ok B w w' := by
 obtain ⟨hbB, v, hB, hR⟩ := hS
 obtain ⟨A, c, e0⟩ := Kd.R_slice hR
 rw [hm] at e0
 subst e0
 have hcell := (bCe hB 0).trans (rfl : _ = some (Value.slice A (m + 1) c))
 have hsP : (swapC cs 0 m).Perm cs := swapC_perm cs 0 m (by omega) (by omega)
 have hsl : (swapC cs 0 m).length = m + 1 := by rw [swapC_length]; exact hm
 have HD : Z0 (DownInv (swapC cs 0 m) m 0) := ⟨down_start (by rw [hm] at hh; exact hh) hm⟩
 have HO : Z0 (∀ a ∈ swapC cs 0 m, CurOk a) := ⟨fun a ha => hok a (hsP.mem_iff.1 ha)⟩
 have HG : Z0 ((swapC cs 0 m).getD m zC = cs.getD 0 zC) := ⟨by rw [swapC_get _ _ _ _ (by omega) (by omega), if_pos rfl]⟩
 have HLE : Z0 (∀ a ∈ cs, leC (cs.getD 0 zC) a) := ⟨least_mem hh⟩
 have HSL : Z0 (m ≤ (swapC cs 0 m).length ∧ (swapC cs 0 m).length < 1099511627776) := ⟨by omega, by omega⟩
 have HL0 : Z0 (0 < cs.length ∧ m < cs.length) := ⟨by omega, by omega⟩
 have hw1 : IntKind.i64.wrap (((m + 1 : Nat) : Int) - 1) = (m : Int) := by rw [i64_w]; exact (IntWalk.wrap64_in _ ⟨by omega, by omega⟩).trans (by omega)
 have HB := Z0.mk hB
 have HR := Z0.mk hR
 have HP := Z0.mk hsP
 have HM := Z0.mk hm
 have HSL2 := Z0.mk hsl
 have HBB := Z0.mk hbB
 clear hB hR hsP hok hh hL hm hsl hbB
 obtain ⟨n1, hn1⟩ : ∃ n1, m + 1 = n1 := ⟨_, rfl⟩
 rw [hn1] at hcell HB HR hw1
 have HN1 := Z0.mk hn1
 clear hn1
 have hmn := fun W (h : W.cell? ⟨B, 0, none⟩ = some (.slice A n1 c)) => method_len B _ W h
 have hmS := fun W (h : W.cell? ⟨B, 0, none⟩ = some (.slice A n1 c)) => method_swap B _ W h
 have hmP := fun W => method_pop ⟨B, 0, none⟩ W
 go_enter Try.func38, Try.ntmps38
 go_wp2_with (first
  | (go_at_call 17; refine (Len_calls _ A n1 c).mono ?_; rintro e w2 ⟨rfl, rfl⟩)
  | (go_at_call 104; refine (swap_calls _ base ok A n1 c cs HR.out 0 m HL0.out.1 HL0.out.2).mono ?_; rintro e w2 ⟨rfl, hR2, hg2⟩)
  | (go_at_call 57; refine (down_calls _ base ok B m (swapC cs 0 m) ⟨HBB.out, _, blk_grown HB.out hg2 (Kd.R_ne HR.out HB.out (by decide)), hR2⟩ HO.out HSL.out.1 HSL.out.2 HD.out).mono ?_; rintro e w3 ⟨b, cs3, rfl, hS3, hP3, hH3, hs3, hE3⟩)
  | (go_at_call 102; refine (popm_calls _ base ok B m cs3 hS3 (hP3.length_eq.trans HSL2.out)).mono ?_; have hg3 := hs3 m (Nat.le_refl _); generalize ex : cs3.getD m z64 = x4 at *; rintro e w4 ⟨A4, c4, rfl, hQ4, hS4, hE4⟩; have HX3 := Z0.mk ex; have HG3 := Z0.mk hg3; clear ex hg3))
 go_ret
 have hl3 : cs3.length = m + 1 := hP3.length_eq.trans HSL2.out
 have e3 := take_get hl3
 rw [show cs3.getD m zC = x4 from HX3.out] at e3
 have ex : x4 = cs.getD 0 zC := HG3.out.trans HG.out
 have hlt : (cs3.take m).length = m := by rw [List.length_take]; omega
 refine ⟨A4, c4, x4, cs3.take m, rfl, hQ4, hS4, ?_, ?_, ?_, ?_⟩
 ·refine List.Perm.trans ?_ (hP3.trans HP.out)
  have : (x4 :: cs3.take m).Perm (cs3.take m ++ [x4]) := List.perm_append_comm (l₁ := [x4])
  rwa [← e3] at this
 ·rw [ex]; exact HLE.out
 ·rw [hlt]; exact heap_take hH3
 ·refine Eff.trans ?_ hE4
  refine Eff.trans ((Eff.refl base ok B w).grown hg2 (fun k hk => ?_)) hE3
  obtain ⟨inner, hown⟩ := Kd.R_own HR.out
  exact ⟨own_base hown k hk, HR.out.1 k hk, own_typed hown k hk⟩
end Go.Proofs.Ytdeeffahfkndkaa.P
namespace Go.Proofs.Ytdeeffahfkndkaa.P
open Go.RowKit Go.Proofs.YtdeeffahfkndkaaW.PrintWords Go.Proofs.YtdeeffahfkndkaaW.PrintLast Go.Proofs.YtdeeffahfkndkaaW.PrintMore
set_option linter.unusedVariables false
set_option linter.unusedSimpArgs false
theorem Q_elem0 {α : Type} {d : Kd α} {e base : Nat} {ok : Nat → Prop} {w : World} {A : Option Addr} {n c : Nat} {xs : List α} (h : d.Q e w base ok (.slice A n c) xs) (z : α) (h0 : 0 < xs.length) :
  ∃ g o cs, A = some ⟨g, o, none⟩ ∧ cs.length = d.sz ∧ d.M w base ok (xs.getD 0 z) cs ∧ (∀ j u, cs[j]? = some u → w.cell? ⟨g, o + j, none⟩ = some u) ∧ (∃ cur, w.heap[g]? = some (.cells cur e (0, 0))) ∧ ok g := by
 have hn : n = xs.length := (Kd.Q_reads' h).1
 subst hn
 obtain ⟨h1, inner, hq, hr⟩ := h
 rcases hq.2 with ⟨h2, _⟩ | ⟨g, off, cap, cur, he, hb, hh, hnc, hcm, hcs, ht⟩
 ·omega
 ·have he' := he
  injection he with ha hx hc
  have hM := hr.2 0 _ (List.getElem?_eq_getElem h0)
  rw [Nat.zero_mul, List.drop_zero] at hM
  have hsz : d.sz ≤ xs.length * d.sz := Nat.le_mul_of_pos_left _ h0
  refine ⟨g, off * d.sz, _, ha, by rw [List.length_take, hr.1, Nat.min_eq_left hsz], ?_, fun j u hu => ?_, ⟨cur, hh⟩, h1 g (by rw [he']; rfl)⟩
  ·rw [List.getD_eq_getElem?_getD, List.getElem?_eq_getElem h0]
   exact d.M_mono (fun k hk => hk.1) hM
  ·rw [bCe hh]
   rw [← ht, List.take_take, Nat.min_eq_left hsz, List.getElem?_take] at hu
   split at hu
   ·rw [List.getElem?_drop] at hu
    rw [← hu]
    simp
   ·cases hu
theorem Eff.Q {α : Type} {d : Kd α} {e base base' B : Nat} {oke : Nat → Prop} {w w' : World} {ok : Nat → Prop} {v : Value} {xs : List α} (h : Eff base oke B w w') (hQ : d.Q e w base' ok v xs) (ht : ∀ q, q ∈ e :: d.E → q ≠ 61 ∧ q ≠ 64) : d.Q e w' base' ok v xs :=
 Kd.Q_mono (Kd.Q_step (Kd.Q_bound hQ) (fun k hk hlt => by
  obtain ⟨_, _, _, q, hq, cells, hc⟩ := hk
  exact h.block k hlt (.inr (.inr ⟨cells, q, hc, ht q hq⟩)))) (fun _ hk => (hk.1 : ok _))
theorem HS_bound {w : World} {base : Nat} {ok : Nat → Prop} {B : Nat} {cs : List Cur} (h : HS w base ok B cs) : HS w base (fun k => ok k ∧ k < w.heap.size) B cs := by
 obtain ⟨h1, v, h2, h3⟩ := h
 exact ⟨h1, v, h2, Kd.R_mono (Kd.R_bound h3) (fun k hk => ⟨hk.1, hk.2.2.1⟩)⟩
theorem HS_mono {w : World} {base : Nat} {ok ok' : Nat → Prop} {B : Nat} {cs : List Cur} (h : HS w base ok B cs) (hk : ∀ k, ok k → ok' k) : HS w base ok' B cs := by
 obtain ⟨h1, v, h2, h3⟩ := h
 exact ⟨h1, v, h2, Kd.R_mono h3 hk⟩
theorem HS_lt {w : World} {base : Nat} {ok : Nat → Prop} {B : Nat} {cs : List Cur} (h : HS w base ok B cs) : B < w.heap.size := by
 obtain ⟨h1, v, h2, h3⟩ := h
 exact blk_lt h2
theorem Eff.mono {base B : Nat} {ok ok' : Nat → Prop} {w w' : World} (h : Eff base ok B w w') (hk : ∀ k, ok k → ok' k) : Eff base ok' B w w' :=
 ⟨h.os, h.tape, h.output, h.size, fun k h1 h2 => h.block k h1 (h2.imp_right (fun h3 => h3.imp_left (fun h4 => ⟨h4.1, fun h5 => h4.2 (hk k h5)⟩)))⟩
theorem HS_drew {w : World} {base : Nat} {ok : Nat → Prop} {B : Nat} {cs : List Cur} (h : HS w base ok B cs) : HS w.drew base ok B cs := by
 obtain ⟨h1, v, h2, h3⟩ := h
 exact ⟨h1, v, bDr h2, Kd.R_drew h3⟩
theorem HS_alloc {w : World} {base : Nat} {ok : Nat → Prop} {B : Nat} {cs : List Cur} (h : HS w base ok B cs) (o : Obj) : HS (w.alloc o) base ok B cs := by
 obtain ⟨h1, v, h2, h3⟩ := h
 exact ⟨h1, v, bAl h2 _, Kd.R_alloc h3 _⟩
structure But (g : Nat) (w w' : World) : Prop where
 os : w'.os = w.os
 tape : w'.tape = w.tape
 output : w'.output = w.output
 size : w.heap.size ≤ w'.heap.size
 block : ∀ k, k < w.heap.size → k ≠ g → w'.heap[k]? = w.heap[k]?
namespace But
theorem refl (g : Nat) (w : World) : But g w w := ⟨rfl, rfl, rfl, Nat.le_refl _, fun _ _ _ => rfl⟩
theorem set {g : Nat} {w w' : World} (h : But g w w') (i : Nat) (u : Value) : But g w (w'.setCell ⟨g, i, none⟩ u) :=
 ⟨h.os, h.tape, h.output, by have := h.size; simp only [World.setCell]; simpa using this, fun k hk hne => (Below.heap_setCell w' ⟨g, i, none⟩ u k hne).trans (h.block k hk hne)⟩
theorem below {g : Nat} {w w' w2 : World} (h : But g w w') (hb : Below w'.heap.size w' w2) : But g w w2 :=
 ⟨hb.os.trans h.os, hb.tape.trans h.tape, hb.output.trans h.output, Nat.le_trans h.size hb.size, fun k hk hne => (hb.block k (Nat.lt_of_lt_of_le hk h.size)).trans (h.block k hk hne)⟩
theorem alloc {g : Nat} {w w' : World} (h : But g w w') (o : Obj) : But g w (w'.alloc o) := h.below (beA (Below.refl _ _) o)
theorem drew {g : Nat} {w w' : World} (h : But g w w') : But g w w'.drew := h.below (below_drew (Below.refl _ _))
end But
theorem HS_but {w w' : World} {base g : Nat} {ok : Nat → Prop} {B : Nat} {cs : List Cur} (h : HS w base ok B cs) (hg : But g w w') (hB : B ≠ g) (hk : ¬ ok g) : HS w' base ok B cs := by
 obtain ⟨h1, v, h2, h3⟩ := h
 exact ⟨h1, v, (hg.block B (blk_lt h2) hB).trans h2, Kd.R_step h3 (fun k ho hl => hg.block k hl (fun e => hk (e ▸ ho)))⟩
theorem M_but {α : Type} {d : Kd α} {w w' : World} {base g : Nat} {ok : Nat → Prop} {x : α} {cs : List Value} (h : d.M w base ok x cs) (hg : But g w w') (hk : ¬ ok g) : d.M w' base ok x cs :=
 d.M_mono (fun _ hk => hk.1) (Kd.M_step (d.M_bound h) (fun k ho hl => hg.block k hl (fun e => hk (e ▸ ho.1))))
theorem Eff.but {base B g : Nat} {ok : Nat → Prop} {w w1 w2 : World} (h : Eff base ok B w w1) (hg : But g w1 w2) (hl : w.heap.size ≤ g) : Eff base ok B w w2 :=
 ⟨hg.os.trans h.os, hg.tape.trans h.tape, hg.output.trans h.output, Nat.le_trans h.size hg.size, fun k h1 h2 => (hg.block k (Nat.lt_of_lt_of_le h1 h.size) (by omega)).trans (h.block k h1 h2)⟩
def tailC (x : Cur) (rest : List Cur) : List Cur := if 1 < x.f0.length then ⟨x.f0.drop 1, x.f1⟩ :: rest else rest
set_option maxHeartbeats 8000000 in
set_option maxRecDepth 100000 in
theorem next_calls (w : World) (base : Nat) (ok : Nat → Prop) (B m : Nat) (cs : List Cur) (hS : HS w base ok B cs) (hm : cs.length = m + 1) (hL : cs.length < 1099511627776) (hok : ∀ a ∈ cs, CurOk a) (hh : HeapP cs cs.length) (hfresh : ∀ k, w.heap.size ≤ k → ok k) :
  Calls Try.prog 18 #[.pointer (some ⟨B, 0, none⟩)] w fun e w' => ∃ x rest v1 v3 cs', e = .returned (.agg #[.int .i64 (hd x).f0, v1, .int .i64 (hd x).f2, v3]) ∧ k39.M w' base ok (hd x) [.int .i64 (hd x).f0, v1, .int .i64 (hd x).f2, v3] ∧
   (x :: rest).Perm cs ∧ (∀ a ∈ cs, leC x a) ∧ HS w' base ok B cs' ∧ cs'.Perm (tailC x rest) ∧ HeapP cs' cs'.length ∧ Eff base ok B w w' := by
 obtain ⟨ok0, eok0⟩ : ∃ o : Nat → Prop, o = fun k => ok k ∧ k ≠ w.heap.size := ⟨_, rfl⟩
 have hS' : HS w base ok0 B cs := by rw [eok0]; exact HS_mono (HS_bound hS) (fun k hk => ⟨hk.1, by have := hk.2; omega⟩)
 have hk0 : ∀ k, ok0 k → ok k := by rw [eok0]; exact fun k hk => hk.1
 have hk1 : ¬ ok0 w.heap.size := by rw [eok0]; exact fun hk => hk.2 rfl
 have hk2 : ∀ k, w.heap.size < k → ok0 k := by rw [eok0]; exact fun k hk => ⟨hfresh k (by omega), by omega⟩
 have hBl := HS_lt hS
 have HK0 := Z0.mk hk0
 have HK1 := Z0.mk hk1
 have HK2 := Z0.mk hk2
 clear eok0 hk0 hk1 hk2 hfresh hS
 have HS0 := Z0.mk hS'
 clear hS'
 have HM := Z0.mk hm
 have HH := Z0.mk hh
 have HOK := Z0.mk hok
 have HL := Z0.mk hL
 clear hm hL hok hh
 have hta : ∀ (v : Value) (W : World), (Instr.typeAssert (.iface 64 v) 20 64 false).run Try.prog W = .ok v W := fun v W => by rfl
 go_enter Try.func18, Try.ntmps18
 go_wp2_with (go_at_call 38; refine (heapPop_calls _ base ok0 B m cs (HS_alloc HS0.out _) HM.out HL.out HOK.out HH.out).mono ?_; rintro e w1 ⟨A, c, x, rest, rfl, hQ, hS1, hP1, hle, hh1, hE1⟩; have hres : w1.heap[w.heap.size]? = some (.cells #[.int .i64 0, .slice none 0 0, .int .i64 0, .slice none 0 0] 39 (0, 0)) := (hE1.block _ (blk_lt (blk_new _ _)) (.inr (.inr ⟨_, 39, blk_new _ _, by decide, by decide⟩))).trans (blk_new _ _); have hrl : w.heap.size < w1.heap.size := blk_lt hres; have hrn : w.heap.size ≠ w1.heap.size := Nat.ne_of_lt hrl; have hr0 := (bCe hres 0).trans rfl; have hr1 := (bCe hres 1).trans rfl; have hr2 := (bCe hres 2).trans rfl; have hr3 := (bCe hres 3).trans rfl; have hrf := fun i => bFz hres i; have HRES := Z0.mk hres; clear hres; have HQ := Z0.mk hQ; have HS1 := Z0.mk hS1; have HP1 := Z0.mk hP1; have HE1 := Z0.mk (((Eff.refl base ok B w).alloc _).trans (hE1.mono HK0.out)); have hBl1 : B < w1.heap.size := HS_lt hS1; have HLE := Z0.mk hle; have HH1 := Z0.mk hh1; clear hQ hS1 hP1 hE1 hle hh1; have hxo : CurOk x := HOK.out x (HP1.out.mem_iff.1 (List.mem_cons_self ..)); have hx0 : 0 < x.f0.length := List.length_pos_iff.2 hxo.1; obtain ⟨g, o, cl, eA, hcl, hM, hcc, htyp, hog⟩ := Q_elem0 HQ.out z39 hx0; have HTYP := Z0.mk htyp; clear htyp hog; subst eA; obtain ⟨v1, v3, ecl, g1, g3⟩ := k39_openM hM; subst ecl; obtain ⟨A1, c1, e1⟩ := Kd.R_slice g1; subst e1; obtain ⟨A3, c3, e3⟩ := Kd.R_slice g3; subst e3; have cf0 : _ = some (Value.int .i64 (x.f0.getD 0 z39).f0) := hcc 0 _ rfl; rw [Nat.add_zero] at cf0; have cf1 := hcc 1 _ rfl; have cf2 := hcc 2 _ rfl; have cf3 := hcc 3 _ rfl; obtain ⟨r, er⟩ : ∃ r, r = x.f0.getD 0 z39 := ⟨_, rfl⟩; rw [← er] at cf0 cf2; have HER := Z0.mk er; have hgl : g < w1.heap.size := World.block_lt_of_cell? _ _ cf0; have hgn : g ≠ w1.heap.size := Nat.ne_of_lt hgl; have hgn' : w1.heap.size ≠ g := Nat.ne_of_gt hgl; clear er; have HM1 := Z0.mk hM; have HXO := Z0.mk hxo; clear hM hcc hcl g1 g3 hxo)
 rotate_left
 ·have hx1 : ¬ 1 < x.f0.length := by
   have : (x.f0.length : Int) ≤ 1 := by assumption
   omega
  have er : hd x = x.f0.getD 0 z39 := rfl
  refine bodyPost_ret (results_cell_row rfl _ _ w.heap.size 39 #[.int .i64 r.f0, .slice A1 (x.f0.getD 0 z39).f1.length c1, .int .i64 r.f2, .slice A3 (x.f0.getD 0 z39).f3.length c3] (0, 0) _ rfl (by first | exact bAl (blk_put (blk_put (blk_put (blk_put HRES.out 0 _ rfl) 1 _ rfl) 2 _ rfl) 3 _ rfl) _ | (simp only [List.getD_eq_getElem?_getD, List.getElem?_eq_getElem (show 0 < x.f0.length by omega), Option.getD_some]; exact bAl (blk_put (blk_put (blk_put (blk_put HRES.out 0 _ rfl) 1 _ rfl) 2 _ rfl) 3 _ rfl) _)) Try.underlying39 rfl (by kernel_rfl)) rfl ?_
  have hb : But w.heap.size w1 _ := ((((But.refl w.heap.size w1).set 0 (.int .i64 r.f0)).set 1 (.slice A1 (x.f0.getD 0 z39).f1.length c1)).set 2 (.int .i64 r.f2)).set 3 (.slice A3 (x.f0.getD 0 z39).f3.length c3)
  have hfin := hb.alloc (.cells #[.slice (some ⟨g, o, none⟩) x.f0.length c, .int .i64 x.f1] 64)
  have e0 : (x.f0.getD 0 z39) = r := HER.out.symm
  rw [show x.f0[0] = r by rw [← e0, List.getD_eq_getElem?_getD, List.getElem?_eq_getElem (by omega)]; rfl]
  rw [e0] at hfin
  have hM1 := HM1.out
  rw [e0] at hM1
  exact ⟨x, rest, _, _, rest, by rw [show hd x = r from e0, e0], by rw [show hd x = r from e0]; exact k39.M_mono HK0.out (M_but hM1 hfin HK1.out), HP1.out, HLE.out, HS_mono (HS_but HS1.out hfin (Nat.ne_of_lt hBl) HK1.out) HK0.out, by rw [tailC, if_neg hx1], HH1.out, HE1.out.but hfin (Nat.le_refl _)⟩
 ·have h1 : 1 < x.f0.length := Int.ofNat_lt.1 (by assumption)
  obtain ⟨hn, hnc, hC⟩ := Kd.Q_reads' HQ.out
  obtain ⟨i0, hi0, _, hsz, _⟩ := info_parts info39
  have hcut := cut_from (P := Try.prog) 28 39 .i64 Try.underlying28 hi0 4 hsz (some ⟨g, o, none⟩) x.f0.length c 1 (by decide) (by omega)
  have hQ2 := Kd.Q_drop (k := 1) HQ.out (by omega)
  obtain ⟨A2, hA2⟩ : ∃ A2, A2 = (if c = 1 then some ⟨g, o, none⟩ else (some (⟨g, o, none⟩ : Addr)).map (·.add (1 * 4))) := ⟨_, rfl⟩
  obtain ⟨n2, hn2⟩ : ∃ n2, n2 = x.f0.length - 1 := ⟨_, rfl⟩
  obtain ⟨c2, hc2⟩ : ∃ c2, c2 = c - 1 := ⟨_, rfl⟩
  replace hcut : ∀ W : World, (Instr.slice 28 (.slice (some ⟨g, o, none⟩) x.f0.length c) (some (.int .i64 1)) none none).run Try.prog W = .ok (.slice A2 n2 c2) W := by rw [hA2, hn2, hc2]; exact hcut
  replace hQ2 : k39.Q 39 w1 base ok0 (.slice A2 n2 c2) (x.f0.drop 1) := by rw [hA2, hn2, hc2]; exact hQ2
  have HQ2 := Z0.mk hQ2
  have HN2 := Z0.mk hn2
  have HCF := Z0.mk (And.intro cf0 (And.intro cf1 (And.intro cf2 cf3)))
  clear hQ2 hA2 hn2 hc2 hi0 hsz hn hnc hC cf0 cf1 cf2 cf3 hr0 hr1 hr2 hr3 hrf
  refine start_ (n := 10) (S := fun w' => w'.cell? ⟨w1.heap.size, 0, none⟩ = some (.slice (some ⟨g, o, none⟩) x.f0.length c) ∧ w'.cell? ⟨w1.heap.size, 1, none⟩ = some (.int .i64 x.f1)) (ds := [9]) #[false, false, false, false, false, false, false, false, false, false] (by kernel_rfl) rfl rfl (by constructor <;> simp) (fun hHeld => ?_)
  refine pure_ (i := 0) (N := some 12) (v := .pointer (some ⟨B, 0, none⟩)) (a' := ?aa1) #[true, false, false, false, false, false, false, false, false, false] rfl rfl (by kernel_rfl) (fun _ _ _ h => h) (Or.inl ⟨by rfl, ?hy1⟩) ?ha1 ?h1
  case hy1 => (intro w'; clear hHeld; go_simp)
  case ha1 => (show Act.put _ _ _ = _; simp only [Act.put, qA, qB, qC]; rfl)
  refine pure_ (i := 1) (N := some 13) (v := hval B) (a' := ?aa2) #[true, true, false, false, false, false, false, false, false, false] rfl rfl (by kernel_rfl) (fun _ _ _ h => h) (Or.inl ⟨by rfl, ?hy2⟩) ?ha2 ?h2
  case hy2 => (intro w'; clear hHeld; go_simp)
  case ha2 => (show Act.put _ _ _ = _; simp only [Act.put, qA, qB, qC]; rfl)
  refine pure_ (i := 2) (N := some 14) (v := .pointer (some ⟨w1.heap.size, 0, none⟩)) (a' := ?aa3) #[true, true, true, false, false, false, false, false, false, false] rfl rfl (by kernel_rfl) (fun _ _ _ h => h) (Or.inl ⟨by rfl, ?hy3⟩) ?ha3 ?h3
  case hy3 => (intro w'; clear hHeld; go_simp)
  case ha3 => (show Act.put _ _ _ = _; simp only [Act.put, qA, qB, qC]; rfl)
  refine take_ (i := 3) (N := some 15) (v := .slice (some ⟨g, o, none⟩) x.f0.length c) (a' := ?aa4) #[true, true, true, true, false, false, false, false, false, false] rfl rfl (by kernel_rfl) (fun _ _ _ h => h) (Or.inl ⟨by rfl, ?hy4⟩) hHeld ?ha4 ?h4
  case hy4 => (rintro w' ⟨s0, s1⟩; clear hHeld; go_simp)
  case ha4 => (show Act.put _ _ _ = _; simp only [Act.put, qA, qB, qC]; rfl)
  refine pure_ (i := 4) (N := some 16) (v := .slice A2 n2 c2) (a' := ?aa5) #[true, true, true, true, true, false, false, false, false, false] rfl rfl (by kernel_rfl) (fun _ _ _ h => h) (Or.inl ⟨by rfl, ?hy5⟩) ?ha5 ?h5
  case hy5 => (intro w'; clear hHeld; go_simp)
  case ha5 => (show Act.put _ _ _ = _; simp only [Act.put, qA, qB, qC]; rfl)
  refine pure_ (i := 5) (N := some 17) (v := .pointer (some ⟨w1.heap.size, 1, none⟩)) (a' := ?aa6) #[true, true, true, true, true, true, false, false, false, false] rfl rfl (by kernel_rfl) (fun _ _ _ h => h) (Or.inl ⟨by rfl, ?hy6⟩) ?ha6 ?h6
  case hy6 => (intro w'; clear hHeld; go_simp)
  case ha6 => (show Act.put _ _ _ = _; simp only [Act.put, qA, qB, qC]; rfl)
  refine take_ (i := 6) (N := some 18) (v := .int .i64 x.f1) (a' := ?aa7) #[true, true, true, true, true, true, true, false, false, false] rfl rfl (by kernel_rfl) (fun _ _ _ h => h) (Or.inl ⟨by rfl, ?hy7⟩) hHeld ?ha7 ?h7
  case hy7 => (rintro w' ⟨s0, s1⟩; clear hHeld; go_simp)
  case ha7 => (show Act.put _ _ _ = _; simp only [Act.put, qA, qB, qC]; rfl)
  refine pure_ (i := 7) (N := some 19) (v := .agg #[.slice A2 n2 c2, .int .i64 x.f1]) (a' := ?aa8) #[true, true, true, true, true, true, true, true, false, false] rfl rfl (by kernel_rfl) (fun _ _ _ h => h) (Or.inl ⟨by rfl, ?hy8⟩) ?ha8 ?h8
  case hy8 => (intro w'; clear hHeld; go_simp)
  case ha8 => (show Act.put _ _ _ = _; simp only [Act.put, qA, qB, qC]; rfl)
  refine pure_ (i := 8) (N := some 20) (v := .iface 64 (.agg #[.slice A2 n2 c2, .int .i64 x.f1])) (a' := ?aa9) #[true, true, true, true, true, true, true, true, true, false] rfl rfl (by kernel_rfl) (fun _ _ _ h => h) (Or.inl ⟨by rfl, ?hy9⟩) ?ha9 ?h9
  case hy9 => (intro w'; clear hHeld; go_simp)
  case ha9 => (show Act.put _ _ _ = _; simp only [Act.put, qA, qB, qC]; rfl)
  refine last_chain [9] _ _ (by decide) (by decide) (by kernel_rfl) rfl ?_
  have hi1 : ∀ k, (fun k => ok0 k ∧ k ≠ w1.heap.size) k → ok0 k := fun k hk => hk.1
  obtain ⟨ok1, eok1⟩ : ∃ o : Nat → Prop, o = fun k => ok0 k ∧ k ≠ w1.heap.size := ⟨_, rfl⟩
  have H1 : Z0 ((∀ k, ok1 k → ok0 k) ∧ ¬ ok1 w1.heap.size ∧ ∀ k, w1.heap.size < k → ok1 k) := ⟨by rw [eok1]; exact ⟨fun k hk => hk.1, fun hk => hk.2 rfl, fun k hk => ⟨HK2.out k (by omega), by omega⟩⟩⟩
  have HS2 : Z0 (HS w1 base ok1 B rest) := ⟨by rw [eok1]; exact HS_mono (HS_bound HS1.out) (fun k hk => ⟨hk.1, by have := hk.2; omega⟩)⟩
  have HQ3 : Z0 (k39.Q 39 w1 base ok1 (.slice A2 n2 c2) (x.f0.drop 1)) := ⟨by rw [eok1]; exact Kd.Q_mono (Kd.Q_bound HQ2.out) (fun k hk => ⟨hk.1, by have := hk.2.2.1; omega⟩)⟩
  clear eok1 hi1
  have HRL : Z0 (rest.length < 1099511627776 ∧ (∀ a ∈ rest, CurOk a) ∧ CurOk ⟨x.f0.drop 1, x.f1⟩) := ⟨by
   refine ⟨?_, fun a ha => HOK.out a (HP1.out.mem_iff.1 (List.mem_cons_of_mem _ ha)), ?_, fun r hr => HXO.out.2 r (List.mem_of_mem_drop hr)⟩
   ·have h2 := HP1.out.length_eq
    have h3 := HL.out
    simp only [List.length_cons] at h2
    omega
   ·intro h2
    have h3 := congrArg List.length h2
    simp only [List.length_drop, List.length_nil] at h3
    omega⟩
  have hX : Z0 (∀ o : Obj, (w1.alloc o).drew.heap[w1.heap.size]? = some o) := ⟨fun o => bDr (blk_new w1 o)⟩
  have HX1 := Z0.mk h1
  clear h1
  go_wp2_with fail
  refine (heapPush_calls _ base ok1 B rest ⟨x.f0.drop 1, x.f1⟩ A2 n2 c2 x.f1 rfl (Kd.Q_drew (Kd.Q_alloc HQ3.out _)) (HS_drew (HS_alloc HS2.out _)) (fun k hk => H1.out.2.2 k (Nat.lt_of_lt_of_le (blk_lt (hX.out _)) hk)) HRL.out.1 HRL.out.2.1 HRL.out.2.2 HH1.out).mono ?_
  rintro e w3 ⟨rfl, cs', hS3, hP3, hH3, hE3⟩
  have hXb := (hE3.block _ (blk_lt (hX.out _)) (.inr (.inl ⟨Nat.ne_of_gt hBl1, H1.out.2.1⟩))).trans (hX.out _)
  have hXl : w1.heap.size < w3.heap.size := blk_lt hXb
  have hX0 := (bCe hXb 0).trans rfl
  have hX1 := (bCe hXb 1).trans rfl
  have hXf := fun i => bFz hXb i
  obtain ⟨cur, hty⟩ := HTYP.out
  have hgb : w3.heap[g]? = w1.heap[g]? := (hE3.block g (blk_lt (bDr (bAl hty _))) (.inr (.inr ⟨cur, 39, bDr (bAl hty _), by decide, by decide⟩))).trans ((bDr (bAl hty _)).trans hty.symm)
  have hrb := (hE3.block w.heap.size (blk_lt (bDr (bAl HRES.out _))) (.inr (.inr ⟨_, 39, bDr (bAl HRES.out _), by decide, by decide⟩))).trans (bDr (bAl HRES.out _))
  have hr0 := (bCe hrb 0).trans rfl
  have hr1 := (bCe hrb 1).trans rfl
  have hr2 := (bCe hrb 2).trans rfl
  have hr3 := (bCe hrb 3).trans rfl
  have hrf := fun i => bFz hrb i
  have cf0 := (World.cell?_of_block (a := ⟨g, o, none⟩) hgb).trans HCF.out.1
  have cf1 := (World.cell?_of_block (a := ⟨g, o + 1, none⟩) hgb).trans HCF.out.2.1
  have cf2 := (World.cell?_of_block (a := ⟨g, o + 2, none⟩) hgb).trans HCF.out.2.2.1
  have cf3 := (World.cell?_of_block (a := ⟨g, o + 3, none⟩) hgb).trans HCF.out.2.2.2
  have HRB := Z0.mk hrb
  have HS3 := Z0.mk hS3
  have HP3 := Z0.mk hP3
  have HH3 := Z0.mk hH3
  have HE3 := Z0.mk hE3
  clear hS3 hP3 hH3 hE3 hXb hgb hrb hty
  go_wp2
  refine wpList_nil ?_
  go_wp2
  refine bodyPost_ret (results_cell_row rfl _ _ w.heap.size 39 #[.int .i64 r.f0, .slice A1 (x.f0.getD 0 z39).f1.length c1, .int .i64 r.f2, .slice A3 (x.f0.getD 0 z39).f3.length c3] (0, 0) _ rfl (by first | exact (blk_put (blk_put (blk_put (blk_put HRB.out 0 _ rfl) 1 _ rfl) 2 _ rfl) 3 _ rfl) | (simp only [List.getD_eq_getElem?_getD, List.getElem?_eq_getElem (show 0 < x.f0.length by omega), Option.getD_some]; exact (blk_put (blk_put (blk_put (blk_put HRB.out 0 _ rfl) 1 _ rfl) 2 _ rfl) 3 _ rfl))) Try.underlying39 rfl (by kernel_rfl)) rfl ?_
  have hfin : But w.heap.size w3 _ := ((((But.refl w.heap.size w3).set 0 (.int .i64 r.f0)).set 1 (.slice A1 (x.f0.getD 0 z39).f1.length c1)).set 2 (.int .i64 r.f2)).set 3 (.slice A3 (x.f0.getD 0 z39).f3.length c3)
  have e0 : (x.f0.getD 0 z39) = r := HER.out.symm
  rw [show x.f0[0] = r by rw [← e0, List.getD_eq_getElem?_getD, List.getElem?_eq_getElem (by omega)]; rfl]
  rw [e0] at hfin
  have hM1 := HM1.out
  rw [e0] at hM1
  have hM3 := HE3.out.M (d := k39) (Kd.M_below (Kd.M_alloc hM1 _) (below_drew (Below.refl _ _))) (by decide)
  exact ⟨x, rest, _, _, cs', by rw [show hd x = r from e0, e0], by rw [show hd x = r from e0]; exact k39.M_mono HK0.out (M_but hM3 hfin HK1.out), HP1.out, HLE.out, HS_mono (HS_but HS3.out hfin (Nat.ne_of_lt hBl) (fun h => HK1.out (H1.out.1 _ h))) (fun k hk => HK0.out k (H1.out.1 k hk)), by rw [tailC, if_pos HX1.out]; exact HP3.out, HH3.out, ((((HE1.out.alloc _).drew).trans (HE3.out.mono (fun k hk => HK0.out k (H1.out.1 k hk)))).but hfin (Nat.le_refl _))⟩
end Go.Proofs.Ytdeeffahfkndkaa.P
