/- Small laws on blocks of a world: what a block holds, read and written cell by cell or whole, behind new blocks. -/
import Derived.WalkKit
import Derived.RowKit
import Derived.Below
import Derived.Laws.Rows
namespace Go.Proofs.Ytcaekploljpmeaa
open Go.RowKit

/-- Block b is a row of these cells, of this type, not frozen. -/
def Blk (w : World) (b : Nat) (cs : Array Value) (t : TypeId) : Prop := w.heap[b]? = some (.cells cs t (0, 0))

theorem Blk.cell {w : World} {b : Nat} {cs : Array Value} {t : TypeId} (h : Blk w b cs t) (k : Nat) : w.cell? ⟨b, k, none⟩ = cs[k]? := by
  unfold Blk at h
  simp [World.cell?, h]
theorem Blk.free {w : World} {b : Nat} {cs : Array Value} {t : TypeId} (h : Blk w b cs t) (k : Nat) : w.frozen? ⟨b, k, none⟩ = false := by
  unfold Blk at h
  simp [World.frozen?, h]
theorem Blk.lt {w : World} {b : Nat} {cs : Array Value} {t : TypeId} (h : Blk w b cs t) : b < w.heap.size := by
  unfold Blk at h
  exact (Array.getElem?_eq_some_iff.1 h).1
theorem Blk.set {w : World} {b : Nat} {cs : Array Value} {t : TypeId} (h : Blk w b cs t) (k : Nat) (v : Value) : Blk (w.setCell ⟨b, k, none⟩ v) b (cs.setIfInBounds k v) t := by
  unfold Blk at h ⊢
  simp [World.setCell, Array.getElem?_modify, h]
theorem heap_set_ne {w : World} {b : Nat} {a : Addr} (v : Value) (h : a.block ≠ b) : (w.setCell a v).heap[b]? = w.heap[b]? := by
  simp [World.setCell, Array.getElem?_modify, h]
theorem Blk.set_ne {w : World} {b : Nat} {cs : Array Value} {t : TypeId} (h : Blk w b cs t) (a : Addr) (v : Value) (hn : a.block ≠ b) : Blk (w.setCell a v) b cs t := by
  unfold Blk at h ⊢
  rw [heap_set_ne v hn]; exact h
theorem Blk.below {w w' : World} {b B : Nat} {cs : Array Value} {t : TypeId} (h : Blk w b cs t) (hb : Below B w w') (hlt : b < B) : Blk w' b cs t := by
  unfold Blk at h ⊢
  rw [hb.block b hlt]; exact h
theorem Blk.new (w : World) (cs : Array Value) (t : TypeId) : Blk (w.alloc (.cells cs t)) w.heap.size cs t := by
  unfold Blk
  simp only [World.alloc, Array.getElem?_push, ↓reduceIte]
theorem Blk.alloc {w : World} {b : Nat} {cs : Array Value} {t : TypeId} (h : Blk w b cs t) (o : Obj) : Blk (w.alloc o) b cs t := by
  have hl := h.lt
  unfold Blk at h ⊢
  simp only [World.alloc, Array.getElem?_push]
  rw [if_neg (by omega)]; exact h

/-- The world with another block at g. -/
def putB (w : World) (g : Nat) (o : Obj) : World := { w with heap := w.heap.setIfInBounds g o }
theorem putB_size (w : World) (g : Nat) (o : Obj) : (putB w g o).heap.size = w.heap.size := by simp [putB]
theorem putB_same {w : World} {g : Nat} (o : Obj) (h : g < w.heap.size) : (putB w g o).heap[g]? = some o := by simp [putB, h]
theorem putB_ne {w : World} {g b : Nat} (o : Obj) (h : g ≠ b) : (putB w g o).heap[b]? = w.heap[b]? := by simp [putB, h]
theorem putB_putB (w : World) (g : Nat) (o o' : Obj) : putB (putB w g o) g o' = putB w g o' := by simp [putB]
theorem putB_self {w : World} {g : Nat} {o : Obj} (h : w.heap[g]? = some o) : putB w g o = w := by
  unfold putB
  have hh : w.heap.setIfInBounds g o = w.heap := by
    apply Array.ext_getElem?
    intro i
    rw [Array.getElem?_setIfInBounds]
    split
    · subst_vars; split
      · exact h.symm
      · rename_i hn; rw [Array.getElem?_eq_none (by omega)] at h; cases h
    · rfl
  rw [hh]
theorem setCell_putB {w : World} {g : Nat} {cs : Array Value} {t : TypeId} (h : Blk w g cs t) (k : Nat) (v : Value) : w.setCell ⟨g, k, none⟩ v = putB w g (.cells (cs.setIfInBounds k v) t (0, 0)) := by
  unfold Blk at h
  unfold World.setCell putB
  congr 1
  apply Array.ext_getElem?
  intro i
  have hl := (Array.getElem?_eq_some_iff.1 h).1
  rw [Array.getElem?_modify, Array.getElem?_setIfInBounds]
  by_cases hi : g = i
  · subst hi; rw [if_pos rfl, if_pos rfl, if_pos hl, h]; rfl
  · rw [if_neg hi, if_neg hi]
theorem below_putB {B : Nat} {a w : World} (h : Below B a w) {g : Nat} (hg : B ≤ g) (o : Obj) : Below B a (putB w g o) :=
  ⟨h.os, h.tape, h.output, by rw [putB_size]; exact h.size, fun k hk => by rw [putB_ne o (by omega)]; exact h.block k hk⟩
theorem Blk.put {w : World} {g : Nat} (h : g < w.heap.size) (cs : Array Value) (t : TypeId) : Blk (putB w g (.cells cs t (0, 0))) g cs t := putB_same _ h
theorem Blk.put_ne {w : World} {b : Nat} {cs : Array Value} {t : TypeId} (h : Blk w b cs t) {g : Nat} (o : Obj) (hn : g ≠ b) : Blk (putB w g o) b cs t := by
  unfold Blk at h ⊢
  rw [putB_ne o hn]; exact h

/-- The cells from place k on, written one by one. -/
def writeAt (cs : Array Value) : Nat → List Value → Array Value
  | _, [] => cs
  | k, v :: vs => writeAt (cs.setIfInBounds k v) (k + 1) vs
theorem writeAt_size (vs : List Value) : ∀ (cs : Array Value) (k : Nat), (writeAt cs k vs).size = cs.size := by
  induction vs with
  | nil => intro cs k; rfl
  | cons v vs ih => intro cs k; rw [writeAt, ih]; simp
theorem writeAt_get (vs : List Value) : ∀ (cs : Array Value) (k : Nat), k + vs.length ≤ cs.size → ∀ j, (writeAt cs k vs)[j]? = if j < k then cs[j]? else if j < k + vs.length then vs[j - k]? else cs[j]? := by
  induction vs with
  | nil => intro cs k _ j; simp [writeAt]; omega
  | cons v vs ih =>
    intro cs k h j
    simp only [List.length_cons] at h
    rw [writeAt, ih _ _ (by simp; omega)]
    simp only [Array.getElem?_setIfInBounds, List.length_cons]
    by_cases h1 : j < k
    · simp [h1, show j < k + 1 by omega, show ¬ k = j by omega]
    · by_cases h2 : j = k
      · subst h2; simp [show j < cs.size by omega]
      · have e : j - k = (j - (k + 1)) + 1 := by omega
        simp [h1, show ¬ j < k + 1 by omega, show ¬ k = j by omega, e]
        by_cases h3 : j < k + 1 + vs.length
        · simp [h3, show j < k + (vs.length + 1) by omega]
        · simp [h3, show ¬ j < k + (vs.length + 1) by omega]
theorem writeAt_all (vs : List Value) (cs : Array Value) (h : vs.length = cs.size) : writeAt cs 0 vs = vs.toArray := by
  apply Array.ext_getElem?
  intro j
  rw [writeAt_get _ _ _ (by omega)]
  by_cases hj : j < vs.length
  · simp [hj]
  · simp [hj]; omega
theorem run_storeCells {P : Program} {g : Nat} {t : TypeId} (vs : List Value) : ∀ (cs : Array Value) (i : Nat) (w : World), Blk w g cs t → i + vs.length ≤ cs.size → (∀ v ∈ vs, v.oneCell' = true) →
    (storeCells ⟨g, 0, none⟩ vs i).run P w = .ok () (putB w g (.cells (writeAt cs i vs) t (0, 0))) := by
  induction vs with
  | nil => intro cs i w h _ _; simp only [storeCells, writeAt]; rw [putB_self h]; rfl
  | cons v vs ih =>
    intro cs i w h hl ho
    simp only [List.length_cons] at hl
    have hadd : (⟨g, 0, none⟩ : Addr).add i = ⟨g, i, none⟩ := by unfold Addr.add; split <;> simp_all
    have hc : w.cell? ⟨g, i, none⟩ = some (cs[i]'(by omega)) := by rw [h.cell, Array.getElem?_eq_getElem (by omega)]
    have hs : (store ⟨g, i, none⟩ v).run P w = .ok () (w.setCell ⟨g, i, none⟩ v) := by
      have h1 := ho v (by simp)
      have hz := h.free i
      cases v <;> first | (cases h1; done) | simp [store, Sem.run, hc, hz]
    simp only [storeCells, hadd]
    rw [Sem.run_bind, hs, Result.andThen_ok]
    have hn := ih (cs.setIfInBounds i v) (i + 1) (w.setCell ⟨g, i, none⟩ v) (h.set i v) (by simp; omega) (fun x hx => ho x (by simp [hx]))
    rw [hn, setCell_putB h, putB_putB, writeAt]
theorem run_storeVar_row {P : Program} (w : World) (g : Nat) (t ty : TypeId) (cs vs : Array Value) (hg : Blk w g cs t) (hi : (P.info? ty).map (·.size) = some vs.size) (hn : vs.size = cs.size)
    (ho : ∀ v ∈ vs.toList, v.oneCell' = true) : (storeVar ty ⟨g, 0, none⟩ (.agg vs)).run P w = .ok () (putB w g (.cells vs t (0, 0))) := by
  obtain ⟨i, hq, hs⟩ := Option.map_eq_some_iff.1 hi
  have h1 := run_storeCells (P := P) (g := g) (t := t) vs.toList cs 0 w hg (by simp; omega) ho
  rw [writeAt_all _ _ (by simp [hn])] at h1
  simp only [Array.toArray_toList] at h1
  simp [storeVar, Sem.run_bind, sizeOf, typeInfo, hq, hs, Value.cells, h1]
theorem wpList_store_row {P : Program} {ops : Array Oper} {rest : List Oper} {o : Oper} {a : Act} {w : World} {Q : Exit → Act → World → Prop} (hgd : o.guard = none) (ty : TypeId) (x y : Operand) (ho : o.op = .store ty x y)
    (g : Nat) (hx : a.eval x = .pointer (some ⟨g, 0, none⟩)) (vs : Array Value) (hy : a.eval y = .agg vs) (t : TypeId) (cs : Array Value) (hg : Blk w g cs t)
    (hi : (P.info? ty).map (·.size) = some vs.size) (hn : vs.size = cs.size) (hone : ∀ v ∈ vs.toList, v.oneCell' = true)
    (h : wpList P ops Q rest (a.put o.dst undef) (putB w g (.cells vs t (0, 0)))) : wpList P ops Q (o :: rest) a w := by
  refine wpList_plain hgd fun K hK => ?_
  unfold Oper.wp execOp
  simp only [ho, hx, hy, Instr.storeAt, Instr.sureAddr, Sem.run_bind, Sem.run_pure, Result.andThen_ok, run_storeVar_row w g t ty cs vs hg hi hn hone]
  exact hK _ _ h
end Go.Proofs.Ytcaekploljpmeaa
