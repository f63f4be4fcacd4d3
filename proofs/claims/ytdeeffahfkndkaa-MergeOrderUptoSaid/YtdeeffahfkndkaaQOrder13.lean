/- A part of the proof: lemmas and contracts of functions (printed or written by the session's program, and by hand), in dependency order. -/
import Derived.Test.YtdeeffahfkndkaaRows
import Derived.Lib.SmallJoins
import Derived.Test.YtdeeffahfkndkaaQOrder3
namespace Go.Proofs.Ytdeeffahfkndkaa.P
open Go.RowKit Go.Proofs.YtdeeffahfkndkaaW.PrintWords Go.Proofs.YtdeeffahfkndkaaW.PrintLast Go.Proofs.YtdeeffahfkndkaaW.PrintMore
set_option linter.unusedVariables false
set_option linter.unusedSimpArgs false
structure Opens (P : Program) {α : Type} (d : Kd α) (t : TypeId) (G : α → Prop) (m : α → Nat) : Prop where
 sz : P.cellsOf t = d.sz
 heap : Kd.Heap d
 open_ : ∀ {H : Type} {enc : TypeId × Value → H} {w : World} {base : Nat} {held : Bool} {fuel : Nat} {cs : List Value} {y : DataW H × List MemPlace}, DataW.trod enc P w base (fun _ => true) held fuel t cs = some y → ∃ x, d.K w x cs ∧ G x ∧ m x ≤ Rows.uptoBulk y.1
section
variable {P : Program}
theorem opens_int {t : TypeId} {k : IntKind} (ht : P.underlying t = some (.int k)) (hc : P.cellsOf t = 1) : Opens P (Kd.int k) t (fun n => (Lit.int k n).wf = true) (fun _ => 1) where
 sz := hc
 heap := Kd.heap_int _
 open_ := fun h => by
  obtain ⟨n, rfl, rfl, hw⟩ := DataW.trod_int ht h
  exact ⟨n, rfl, hw, by simp [Rows.uptoBulk]⟩
theorem opens_string {t : TypeId} (ht : P.underlying t = some .string) (hc : P.cellsOf t = 1) : Opens P Kd.string t (fun s => s.size ≤ maxLen) (fun s => s.size + 1) where
 sz := hc
 heap := Kd.heap_string
 open_ := fun h => by
  obtain ⟨s, rfl, rfl, hw⟩ := DataW.trod_string ht h
  refine ⟨s, rfl, hw, ?_⟩
  show s.size + 1 ≤ s.data.toList.length + 1
  rw [Array.length_toList]
  exact Nat.le_refl _
theorem mapM_at {β : Type} {f : Nat → Option β} : ∀ {l : List Nat} {r : List β}, l.mapM f = some r → r.length = l.length ∧ ∀ (i k : Nat) u, l[i]? = some k → r[i]? = some u → f k = some u
 | [], r, h => by simp at h; subst h; exact ⟨rfl, fun i k u hi => by simp at hi⟩
 | a :: l, r, h => by
  simp only [List.mapM_cons, Option.bind_eq_bind, Option.bind_eq_some_iff] at h
  obtain ⟨b, hb, c, hc, e⟩ := h
  simp only [Option.pure_def, Option.some.injEq] at e
  subst e
  obtain ⟨h1, h2⟩ := mapM_at hc
  refine ⟨by simp [h1], fun i k u hi hu => ?_⟩
  cases i with
  | zero => simp at hi hu; subst hi; subst hu; exact hb
  | succ i => exact h2 i k u (by simpa using hi) (by simpa using hu)
theorem cells_get {w : World} {base : Nat} {a : Addr} {n : Nat} {c : List Value} (h : w.cells? base a n = some c) : c.length = n ∧ ∀ (i : Nat) u, c[i]? = some u → w.cell? (a.add i) = some u := by
 unfold World.cells? at h
 split at h
 ·obtain ⟨h1, h2⟩ := mapM_at h
  rw [List.length_range] at h1
  refine ⟨h1, fun i u hu => h2 i i u ?_ hu⟩
  have hi : i < n := by have := (List.getElem?_eq_some_iff.1 hu).1; omega
  rw [List.getElem?_range hi]
 ·cases h
theorem list_choose_ {α β : Type} {f : β → α} : ∀ (xs : List α) (Q : Nat → β → Prop), (∀ (j : Nat) x, xs[j]? = some x → ∃ b, f b = x ∧ Q j b) → ∃ zs : List β, zs.map f = xs ∧ ∀ (j : Nat) b, zs[j]? = some b → Q j b
 | [], _, _ => ⟨[], rfl, fun j b h => by simp at h⟩
 | x :: xs, Q, h => by
  obtain ⟨b, hb, hq⟩ := h 0 x rfl
  obtain ⟨zs, hz, hQ⟩ := list_choose_ xs (fun j b => Q (j + 1) b) (fun j y hj => h (j + 1) y (by simpa using hj))
  refine ⟨b :: zs, by simp [hb, hz], fun j c hj => ?_⟩
  cases j with
  | zero => simp at hj; subst hj; exact hq
  | succ j => exact hQ j c (by simpa using hj)
theorem bulk_sum {α H : Type} {m : α → Nat} : ∀ {zs : List (α × (DataW H × List MemPlace))}, (∀ z ∈ zs, m z.1 ≤ Rows.uptoBulk z.2.1) → (zs.map fun z => m z.1).sum ≤ Rows.uptoBulkAll (zs.map fun z => z.2.1)
 | [], _ => by simp [Rows.uptoBulkAll]
 | z :: zs, h => by
  have h1 := h z (List.mem_cons_self ..)
  have h2 := bulk_sum (zs := zs) (fun y hy => h y (List.mem_cons_of_mem _ hy))
  simp only [List.map_cons, List.sum_cons, Rows.uptoBulkAll]
  omega
theorem opens_slice {α : Type} {d : Kd α} {t e : TypeId} {G : α → Prop} {m : α → Nat} (ht : P.underlying t = some (.slice e)) (hc : P.cellsOf t = 1) (ho : Opens P d e G m) : Opens P (Kd.slice e d) t (fun xs => xs.length ≤ maxLen ∧ ∀ x ∈ xs, G x) (fun xs => (xs.map m).sum + 1) where
 sz := hc
 heap := Kd.heap_slice _ ho.heap
 open_ := fun {H enc w base held fuel cs y} h => by
  rcases DataW.trod_slice ht h with ⟨rfl, rfl⟩ | ⟨a, len, cap, elems, rest, n, _, rfl, rfl, _, hlc, hcm, hel, hat, _, _⟩
  ·exact ⟨[], ⟨none, 0, rfl, Nat.le_refl _, Kd.C_nil d w⟩, ⟨Nat.zero_le _, fun x hx => by simp at hx⟩, by simp [Rows.uptoBulk]⟩
  ·obtain ⟨zs, hz, hQ⟩ := list_choose_ (f := fun z : α × (DataW H × List MemPlace) => z.2) elems (fun j z => ∃ c, c.length = d.sz ∧ d.K w z.1 c ∧ (∀ (i : Nat) u, c[i]? = some u → w.cell? (a.add (j * d.sz + i)) = some u) ∧ G z.1 ∧ m z.1 ≤ Rows.uptoBulk z.2.1) (fun j x hj => by
    have hjl : j < len := by rw [← hel]; exact (List.getElem?_eq_some_iff.1 hj).1
    have h1 := hat j hjl
    rw [hj, Option.bind_eq_some_iff] at h1
    obtain ⟨c, hcc, ht2⟩ := h1
    obtain ⟨v, hK, hG, hm⟩ := ho.open_ ht2
    obtain ⟨c1, c2⟩ := cells_get hcc
    exact ⟨(v, x), rfl, c, c1.trans ho.sz, hK, fun i u hu => by rw [← Go.Deep.add_add, ← ho.sz]; exact c2 i u hu, hG, hm⟩)
   have hzl : zs.length = len := by rw [← hel, ← hz, List.length_map]
   have hlen : (zs.map (·.1)).length = len := by rw [List.length_map, hzl]
   refine ⟨zs.map (·.1), ⟨some a, cap, by rw [hlen], by rw [hlen]; exact hlc, rfl, by rw [hlen]; show len ≤ maxLen; omega, fun _ => ⟨a, rfl, fun j p hj => ?_⟩⟩, ⟨by rw [hlen]; omega, fun x hx => ?_⟩, ?_⟩
   ·rw [List.getElem?_map, Option.map_eq_some_iff] at hj
    obtain ⟨z, hz2, rfl⟩ := hj
    obtain ⟨c, q1, q2, q3, _, _⟩ := hQ j z hz2
    exact ⟨c, q1, q2, q3⟩
   ·obtain ⟨z, hz2, rfl⟩ := List.mem_map.1 hx
    obtain ⟨j, hj⟩ := List.getElem?_of_mem hz2
    obtain ⟨c, _, _, _, q4, _⟩ := hQ j z hj
    exact q4
   ·have hs := bulk_sum (m := m) (zs := zs) (fun z hz2 => by
     obtain ⟨j, hj⟩ := List.getElem?_of_mem hz2
     obtain ⟨c, _, _, _, _, q5⟩ := hQ j z hj
     exact q5)
    have he : zs.map (fun z => z.2.1) = elems.map (·.1) := by rw [← hz, List.map_map]; rfl
    rw [he] at hs
    rw [List.map_map]
    show (zs.map fun z => m z.1).sum + 1 ≤ Rows.uptoBulk (.slice (elems.map (·.1)) (rest.map (·.1)))
    rw [Rows.uptoBulk]
    omega
theorem trod_fields {H : Type} {enc : TypeId × Value → H} {w : World} {base : Nat} {sp : Nat → Bool} {held : Bool} {fuel : Nat} {t : TypeId} {fs : Array Field} {cs : List Value} {x : DataW H × List MemPlace} (hs : P.underlying t = some (.struct fs)) (hone : Go.Deep.oneCellFields P fs = true) (hC : P.cellsOf t = fs.size)
  (h : DataW.trod enc P w base sp held fuel t cs = some x) : ∃ (xs : List (DataW H × List MemPlace)) (n : Nat), x.1 = .agg (xs.map (·.1)) ∧ cs.length = fs.size ∧ xs.length = fs.size ∧ ∀ (i : Nat) f c, fs[i]? = some f → cs[i]? = some c → DataW.trod enc P w base sp held n f.type [c] = xs[i]? := by
 obtain ⟨xs, n, _, rfl, hl, hlen, hf⟩ := DataW.trod_struct hs h
 refine ⟨xs, n, rfl, hl.trans hC, hlen, fun i f c hi hc => ?_⟩
 obtain ⟨o, k⟩ := Go.Deep.hone_of hone i f hi
 have h1 := hf i f hi
 rw [o, k] at h1
 rw [← h1]
 congr 1
 have hlt := (List.getElem?_eq_some_iff.1 hc).1
 rw [List.drop_eq_getElem_cons hlt]
 have e : cs[i] = c := by rw [List.getElem?_eq_getElem hlt] at hc; exact Option.some.inj hc
 rw [e]; rfl
theorem Opens.V {α : Type} {d : Kd α} {t e : TypeId} {G : α → Prop} {m : α → Nat} (ho : Opens P d e G m) {w : World} {A : Option Addr} {n c b : Nat} {xs : List α} (h : d.C w A n xs) (hl : xs.length ≤ c) (hn : n = xs.length) : Kd.V d t w b (fun k => k < w.heap.size) (.slice A n c) xs := by
 subst hn
 exact Kd.V_mk hl (Kd.C_F ho.heap h)
end
end Go.Proofs.Ytdeeffahfkndkaa.P
namespace Go.Proofs.Ytdeeffahfkndkaa.P
open Go.RowKit Go.Proofs.YtdeeffahfkndkaaW.PrintWords Go.Proofs.YtdeeffahfkndkaaW.PrintLast Go.Proofs.YtdeeffahfkndkaaW.PrintMore
set_option linter.unusedVariables false
set_option linter.unusedSimpArgs false
def GAgg (a : S71) : Prop := (Lit.int .i64 a.f0).wf = true ∧ (Lit.int .i64 a.f1).wf = true ∧ (Lit.int .i64 a.f2).wf = true
def GStr (s : ByteArray) : Prop := s.size ≤ maxLen
def GRow (r : S39) : Prop := ((Lit.int .i64 r.f0).wf = true ∧ (Lit.int .i64 r.f2).wf = true) ∧ (r.f1.length ≤ maxLen ∧ ∀ s ∈ r.f1, GStr s) ∧ (r.f3.length ≤ maxLen ∧ ∀ a ∈ r.f3, GAgg a)
def mStr (s : ByteArray) : Nat := s.size + 1
def mAgg (_ : S71) : Nat := 4
def mRow (r : S39) : Nat := ((r.f1.map mStr).sum + 1) + ((r.f3.map mAgg).sum + 1) + 3
theorem opens3 : Opens Try.prog (Kd.int .i64) 3 (fun n => (Lit.int .i64 n).wf = true) (fun _ => 1) := opens_int Try.underlying3 (by kernel_rfl)
theorem opens9 : Opens Try.prog Kd.string 9 GStr mStr := opens_string Try.underlying9 (by kernel_rfl)
theorem opens22 : Opens Try.prog (Kd.slice 9 Kd.string) 22 (fun xs => xs.length ≤ maxLen ∧ ∀ s ∈ xs, GStr s) (fun xs => (xs.map mStr).sum + 1) := opens_slice Try.underlying22 (by kernel_rfl) opens9
theorem opens71 : Opens Try.prog k71 71 GAgg mAgg where
 sz := by kernel_rfl
 heap := Kd.heap_iso _ (Kd.heap_pair (Kd.heap_int _) (Kd.heap_pair (Kd.heap_int _) (Kd.heap_int _)))
 open_ := fun {H enc w base held fuel cs y} h => by
  obtain ⟨xs, n, hx, hl, hxl, hf⟩ := trod_fields Try.underlying71 (by kernel_rfl) (by kernel_rfl) h
  match cs, hl with
  | [c0, c1, c2], _ =>
   match xs, hxl with
   | [y0, y1, y2], _ =>
    obtain ⟨x0, e0, g0, m0⟩ := opens3.open_ (hf 0 _ c0 rfl rfl)
    obtain ⟨x1, e1, g1, m1⟩ := opens3.open_ (hf 1 _ c1 rfl rfl)
    obtain ⟨x2, e2, g2, m2⟩ := opens3.open_ (hf 2 _ c2 rfl rfl)
    refine ⟨⟨x0, x1, x2⟩, ⟨[c0], [c1, c2], rfl, e0, ⟨[c1], [c2], rfl, e1, e2⟩⟩, ⟨g0, g1, g2⟩, ?_⟩
    rw [hx]
    simp only [Rows.uptoBulk, Rows.uptoBulkAll, List.map_cons, List.map_nil, mAgg]
    omega
theorem opens37 : Opens Try.prog (Kd.slice 71 k71) 37 (fun xs => xs.length ≤ maxLen ∧ ∀ a ∈ xs, GAgg a) (fun xs => (xs.map mAgg).sum + 1) := opens_slice Try.underlying37 (by kernel_rfl) opens71
theorem opens39 : Opens Try.prog k39 39 GRow mRow where
 sz := by kernel_rfl
 heap := Kd.heap_iso _ (Kd.heap_pair (Kd.heap_int _) (Kd.heap_pair opens22.heap (Kd.heap_pair (Kd.heap_int _) opens37.heap)))
 open_ := fun {H enc w base held fuel cs y} h => by
  obtain ⟨xs, n, hx, hl, hxl, hf⟩ := trod_fields Try.underlying39 (by kernel_rfl) (by kernel_rfl) h
  match cs, hl with
  | [c0, c1, c2, c3], _ =>
   match xs, hxl with
   | [y0, y1, y2, y3], _ =>
    obtain ⟨x0, e0, g0, m0⟩ := opens3.open_ (hf 0 _ c0 rfl rfl)
    obtain ⟨x1, e1, g1, m1⟩ := opens22.open_ (hf 1 _ c1 rfl rfl)
    obtain ⟨x2, e2, g2, m2⟩ := opens3.open_ (hf 2 _ c2 rfl rfl)
    obtain ⟨x3, e3, g3, m3⟩ := opens37.open_ (hf 3 _ c3 rfl rfl)
    refine ⟨⟨x0, x1, x2, x3⟩, ⟨[c0], [c1, c2, c3], rfl, e0, ⟨[c1], [c2, c3], rfl, e1, ⟨[c2], [c3], rfl, e2, e3⟩⟩⟩, ⟨⟨g0, g2⟩, g1, g3⟩, ?_⟩
    rw [hx]
    simp only [Rows.uptoBulk, Rows.uptoBulkAll, List.map_cons, List.map_nil, mRow]
    omega
def GList (l : List S39) : Prop := l.length ≤ maxLen ∧ ∀ r ∈ l, GRow r
def mList (l : List S39) : Nat := (l.map mRow).sum + 1
theorem opens28 : Opens Try.prog (Kd.slice 39 k39) 28 GList mList := opens_slice Try.underlying28 (by kernel_rfl) opens39
def GLists (l : List (List S39)) : Prop := l.length ≤ maxLen ∧ ∀ x ∈ l, GList x
def mLists (l : List (List S39)) : Nat := (l.map mList).sum + 1
theorem opens25 : Opens Try.prog (Kd.slice 28 (Kd.slice 39 k39)) 25 GLists mLists := opens_slice Try.underlying25 (by kernel_rfl) opens28
set_option maxRecDepth 100000 in
theorem open24 {H : Type} {enc : TypeId × Value → H} {w : World} {base b0 : Nat} {held : Bool} {r : Reach} {v : Value} {d : DataW H} {p : List MemPlace} (hv : Value.okWide Try.prog w r b0 24 v) (h : DataW.Trod enc Try.prog w base (fun _ => true) held 24 v d p) :
  ∃ A0 c0 l0 A1 c1 l1, v = .agg #[.slice A0 (l0 : List ByteArray).length c0, .slice A1 (l1 : List ByteArray).length c1] ∧ l0.length ≤ c0 ∧ Kd.string.C w A0 l0.length l0 ∧ l1.length ≤ c1 ∧ Kd.string.C w A1 l1.length l1 ∧ (∀ s ∈ l0, GStr s) ∧ (∀ s ∈ l1, GStr s) := by
 obtain ⟨v0, v1, y0, y1, n, rfl, rfl, rfl, h0, h1⟩ := Go.Joins.open_agg2 Try.underlying24 (by kernel_rfl) (by kernel_rfl) hv h
 obtain ⟨l0, ⟨A0, c0, e0, q0, C0⟩, g0, _⟩ := opens22.open_ h0
 obtain ⟨l1, ⟨A1, c1, e1, q1, C1⟩, g1, _⟩ := opens22.open_ h1
 simp only [List.cons.injEq, and_true] at e0 e1
 subst e0; subst e1
 exact ⟨A0, c0, l0, A1, c1, l1, rfl, q0, C0, q1, C1, g0.2, g1.2⟩
set_option maxRecDepth 100000 in
theorem open_sl {α : Type} {d : Kd α} {t e : TypeId} {G : List α → Prop} {m : List α → Nat} (ht : Try.prog.underlying t = some (.slice e)) (ho : Opens Try.prog (Kd.slice e d) t G m) {H : Type} {enc : TypeId × Value → H} {w : World} {base b0 : Nat} {held : Bool} {r : Reach} {v : Value} {dd : DataW H} {p : List MemPlace}
  (hv : Value.okWide Try.prog w r b0 t v) (h : DataW.Trod enc Try.prog w base (fun _ => true) held t v dd p) : ∃ A c l, v = .slice A (l : List α).length c ∧ l.length ≤ c ∧ d.C w A l.length l ∧ G l ∧ m l ≤ Rows.uptoBulk dd := by
 obtain ⟨a, len, cap, rfl⟩ := Go.WideShapes.okWide_slice ht hv
 obtain ⟨fuel, hf⟩ := h
 obtain ⟨l, ⟨A, c, e0, q0, C0⟩, g, hm⟩ := ho.open_ hf
 simp only [Value.cells, List.cons.injEq, and_true] at e0
 exact ⟨A, c, l, e0, q0, C0, g, hm⟩
end Go.Proofs.Ytdeeffahfkndkaa.P
