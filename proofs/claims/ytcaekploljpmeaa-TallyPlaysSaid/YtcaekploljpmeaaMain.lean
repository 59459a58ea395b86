import Derived.Test.YtcaekploljpmeaaSum
import Derived.Deep.DeepCutAuto
import Derived.Deep.LoopGhost
import Derived.Deep.CutBlock
import Derived.Test.YtcaekploljpmeaaInv
import Derived.Test.YtcaekploljpmeaaEq
import Derived.Shelf.Abstract
namespace Go.Proofs.Ytcaekploljpmeaa
open Go.RowKit Go.Shelf

/-- The acts, as they lie in memory. -/
structure Acts (w : World) (b off len : Nat) (kd k x y : Nat → Int) : Prop where
  c0 : ∀ i, i < len → w.cell? ⟨b, off + i * 4, none⟩ = some (.int .u8 (kd i))
  c1 : ∀ i, i < len → w.cell? ⟨b, off + i * 4 + 1, none⟩ = some (.int .i64 (k i))
  c2 : ∀ i, i < len → w.cell? ⟨b, off + i * 4 + 2, none⟩ = some (.int .i64 (x i))
  c3 : ∀ i, i < len → w.cell? ⟨b, off + i * 4 + 3, none⟩ = some (.int .i64 (y i))
  r : ∀ i, i < len → 0 ≤ kd i ∧ kd i ≤ 255
theorem Acts.below {w w' : World} {b off len : Nat} {kd k x y : Nat → Int} (h : Acts w b off len kd k x y) {B : Nat} (hb : Below B w w') (hlt : b < B) : Acts w' b off len kd k x y :=
  ⟨fun i hi => (hb.cell (p := ⟨b, _, none⟩) hlt).trans (h.c0 i hi), fun i hi => (hb.cell (p := ⟨b, _, none⟩) hlt).trans (h.c1 i hi), fun i hi => (hb.cell (p := ⟨b, _, none⟩) hlt).trans (h.c2 i hi), fun i hi => (hb.cell (p := ⟨b, _, none⟩) hlt).trans (h.c3 i hi), h.r⟩

/-- What holds all through a round: the two rows of counts, the act, and what lay before. -/
structure St (w : World) (B S : Nat) (xs ys : List Int) (k x y : Int) (W : World) : Prop where
  t : Tl W B xs 31
  r : Tl W (B + 1) ys 33
  c1 : W.cell? ⟨S, 1, none⟩ = some (.int .i64 k)
  c2 : W.cell? ⟨S, 2, none⟩ = some (.int .i64 x)
  c3 : W.cell? ⟨S, 3, none⟩ = some (.int .i64 y)
  lt : S < W.heap.size
  b : Below w.heap.size w W
theorem St.below {w : World} {B S : Nat} {xs ys : List Int} {k x y : Int} {W W' : World} (h : St w B S xs ys k x y W) (hb : Below W.heap.size W W') : St w B S xs ys k x y W' :=
  ⟨h.t.below hb h.t.blk.lt, h.r.below hb h.r.blk.lt, (hb.cell (p := ⟨S, 1, none⟩) h.lt).trans h.c1, (hb.cell (p := ⟨S, 2, none⟩) h.lt).trans h.c2, (hb.cell (p := ⟨S, 3, none⟩) h.lt).trans h.c3,
    Nat.lt_of_lt_of_le h.lt hb.size, h.b.trans (hb.mono h.b.size)⟩
theorem St.put {w : World} {B S : Nat} {xs ys : List Int} {k x y : Int} {W : World} (h : St w B S xs ys k x y W) {g : Nat} (o : Obj) (h1 : g ≠ B) (h2 : g ≠ B + 1) (h3 : g ≠ S) (h4 : w.heap.size ≤ g) : St w B S xs ys k x y (putB W g o) :=
  ⟨⟨h.t.blk.put_ne o h1, h.t.len⟩, ⟨h.r.blk.put_ne o h2, h.r.len⟩, by have := h.c1; unfold World.cell? at this ⊢; rw [putB_ne o h3]; exact this, by have := h.c2; unfold World.cell? at this ⊢; rw [putB_ne o h3]; exact this, by have := h.c3; unfold World.cell? at this ⊢; rw [putB_ne o h3]; exact this,
    by rw [putB_size]; exact h.lt, below_putB h.b h4 o⟩
theorem St.turn {w : World} {B S : Nat} {xs ys zs : List Int} {k x y : Int} {W : World} (h : St w B S xs ys k x y W) (hn : S ≠ B + 1) (hw : w.heap.size ≤ B) (hz : zs.length = 16) : St w B S xs zs k x y (putB W (B + 1) (.cells (enc zs) 33 (0, 0))) :=
  ⟨⟨h.t.blk.put_ne _ (by omega), h.t.len⟩, ⟨Blk.put h.r.blk.lt _ _, hz⟩, by have := h.c1; unfold World.cell? at this ⊢; rw [putB_ne _ (Ne.symm hn)]; exact this, by have := h.c2; unfold World.cell? at this ⊢; rw [putB_ne _ (Ne.symm hn)]; exact this, by have := h.c3; unfold World.cell? at this ⊢; rw [putB_ne _ (Ne.symm hn)]; exact this,
    by rw [putB_size]; exact h.lt, below_putB h.b (by omega) _⟩
theorem St.only {w : World} {B S : Nat} {xs ys zs : List Int} {k x y : Int} {W W' : World} (h : St w B S xs ys k x y W) (ho : Only B W W') (ht : Tl W' B zs 31) (hn : S ≠ B) (hw : w.heap.size ≤ B) : St w B S zs ys k x y W' :=
  ⟨ht, h.r.only ho (by omega), by have := h.c1; unfold World.cell? at this ⊢; rw [ho.block S hn]; exact this, by have := h.c2; unfold World.cell? at this ⊢; rw [ho.block S hn]; exact this, by have := h.c3; unfold World.cell? at this ⊢; rw [ho.block S hn]; exact this,
    by rw [ho.size]; exact h.lt, below_only h.b ho hw⟩
theorem St.start {w : World} {B : Nat} {xs : List Int} {kd k x y : Int} {wr : World} (hT : Tl wr B xs 31) (hW : Tl wr (B + 1) xs 33) (hb : Below w.heap.size w wr) : St w B wr.heap.size xs xs k x y (wr.alloc (.cells #[.int .u8 kd, .int .i64 k, .int .i64 x, .int .i64 y] 35)) :=
  ⟨⟨hT.blk.alloc _, hT.len⟩, ⟨hW.blk.alloc _, hW.len⟩, (Blk.new wr _ 35).cell 1, (Blk.new wr _ 35).cell 2, (Blk.new wr _ 35).cell 3, by simp, hb.alloc hb.size _⟩
theorem St.only2 {w : World} {B S g : Nat} {xs ys : List Int} {k x y : Int} {W W' : World} (h : St w B S xs ys k x y W) (ho : Only g W W') (h1 : B ≠ g) (h2 : B + 1 ≠ g) (h3 : S ≠ g) (h4 : w.heap.size ≤ g) : St w B S xs ys k x y W' :=
  ⟨h.t.only ho h1, h.r.only ho h2, by have := h.c1; unfold World.cell? at this ⊢; rw [ho.block S h3]; exact this, by have := h.c2; unfold World.cell? at this ⊢; rw [ho.block S h3]; exact this, by have := h.c3; unfold World.cell? at this ⊢; rw [ho.block S h3]; exact this,
    by rw [ho.size]; exact h.lt, below_only h.b ho h4⟩
theorem St.turn2 {w : World} {B S : Nat} {xs ys zs : List Int} {k x y : Int} {W W' : World} (h : St w B S xs ys k x y W) (ho : Only (B + 1) W W') (ht : Blk W' (B + 1) (enc zs) 33) (hn : S ≠ B + 1) (hw : w.heap.size ≤ B) (hz : zs.length = 16) : St w B S xs zs k x y W' :=
  ⟨h.t.only ho (by omega), ⟨ht, hz⟩, by have := h.c1; unfold World.cell? at this ⊢; rw [ho.block S hn]; exact this, by have := h.c2; unfold World.cell? at this ⊢; rw [ho.block S hn]; exact this, by have := h.c3; unfold World.cell? at this ⊢; rw [ho.block S hn]; exact this,
    by rw [ho.size]; exact h.lt, below_only h.b ho (by omega)⟩
theorem only_putB (w : World) (g : Nat) (o : Obj) : Only g w (putB w g o) := ⟨rfl, rfl, rfl, putB_size _ _ _, fun _ hi => putB_ne o (Ne.symm hi)⟩

section
variable {P : Program} {ops : Array Oper} {rest : List Oper} {o : Oper} {a : Act} {w : World} {Q : Exit → Act → World → Prop}
theorem wpList_store_abs (hgd : o.guard = none) (ty : TypeId) (x y : Operand) (ho : o.op = .store ty x y)
    (g : Nat) (hx : a.eval x = .pointer (some ⟨g, 0, none⟩)) (vs : Array Value) (hy : a.eval y = .agg vs) (t : TypeId) (cs : Array Value) (hg : Blk w g cs t)
    (hi : (P.info? ty).map (·.size) = some vs.size) (hn : vs.size = cs.size) (hone : ∀ v ∈ vs.toList, v.oneCell' = true)
    (h : ∀ w', Blk w' g vs t → Only g w w' → wpList P ops Q rest (a.put o.dst undef) w') : wpList P ops Q (o :: rest) a w :=
  wpList_store_row hgd ty x y ho g hx vs hy t cs hg hi hn hone (h _ (Blk.put hg.lt _ _) (only_putB _ _ _))
theorem wpList_alloc_abs (hgd : o.guard = none) (ty : TypeId) (ho : o.op = .alloc ty) (z : Value) (hz : (P.info? ty).map (·.zero) = some (some z))
    (h : ∀ w', Blk w' w.heap.size z.cells ty → Below w.heap.size w w' → w'.heap.size = w.heap.size + 1 → wpList P ops Q rest (a.put o.dst (.pointer (some ⟨w.heap.size, 0, none⟩))) w') : wpList P ops Q (o :: rest) a w := by
  obtain ⟨i, hi, hz0⟩ := Option.map_eq_some_iff.1 hz
  refine wpList_plain hgd fun K hK => ?_
  unfold Oper.wp execOp
  have e : (Instr.alloc ty true (.tuple #[])).run P w = .ok (.pointer (some ⟨w.heap.size, 0, none⟩)) (w.alloc (.cells z.cells ty)) := by
    simp [Instr.alloc, zeroValue, typeInfo, Sem.run_bind, hi, hz0, newVar, newRow, newObj]
    rfl
  simp only [ho, Sem.run_bind, e, Result.andThen_ok, Sem.run_pure]
  exact hK _ _ (h _ (Blk.new _ _ _) ((Below.refl _ _).alloc (Nat.le_refl _) _) (by simp))
end

section
variable {P : Program} {o : Oper} {a : Act} {w : World} {K : Act → World → Prop} {Q : Exit → Act → World → Prop}
theorem oper_alloc_abs (ty : TypeId) (ho : o.op = .alloc ty) (z : Value) (hz : (P.info? ty).map (·.zero) = some (some z))
    (h : ∀ w', Blk w' w.heap.size z.cells ty → Below w.heap.size w w' → w'.heap.size = w.heap.size + 1 → K (a.put o.dst (.pointer (some ⟨w.heap.size, 0, none⟩))) w') : o.wp P a w K Q := by
  obtain ⟨i, hi, hz0⟩ := Option.map_eq_some_iff.1 hz
  unfold Oper.wp execOp
  have e : (Instr.alloc ty true (.tuple #[])).run P w = .ok (.pointer (some ⟨w.heap.size, 0, none⟩)) (w.alloc (.cells z.cells ty)) := by
    simp [Instr.alloc, zeroValue, typeInfo, Sem.run_bind, hi, hz0, newVar, newRow, newObj]
    rfl
  simp only [ho, Sem.run_bind, e, Result.andThen_ok, Sem.run_pure]
  exact h _ (Blk.new _ _ _) ((Below.refl _ _).alloc (Nat.le_refl _) _) (by simp)
theorem oper_store_abs (ty : TypeId) (x y : Operand) (ho : o.op = .store ty x y)
    (g : Nat) (hx : a.eval x = .pointer (some ⟨g, 0, none⟩)) (vs : Array Value) (hy : a.eval y = .agg vs) (t : TypeId) (cs : Array Value) (hg : Blk w g cs t)
    (hi : (P.info? ty).map (·.size) = some vs.size) (hn : vs.size = cs.size) (hone : ∀ v ∈ vs.toList, v.oneCell' = true)
    (h : ∀ w', Blk w' g vs t → Only g w w' → K (a.put o.dst undef) w') : o.wp P a w K Q := by
  unfold Oper.wp execOp
  simp only [ho, hx, hy, Instr.storeAt, Instr.sureAddr, Sem.run_bind, Sem.run_pure, Result.andThen_ok, run_storeVar_row w g t ty cs vs hg hi hn hone]
  exact h _ (Blk.put hg.lt _ _) (only_putB _ _ _)
end
theorem run_exec_load_row {P : Program} {o : Oper} {ρ : Operand → Value} {w : World} (ty : TypeId) (x : Operand) (ho : o.op = .load ty x) (g : Nat) (hx : ρ x = .pointer (some ⟨g, 0, none⟩)) (t : TypeId) (cs : Array Value) (hg : Blk w g cs t)
    (d : TypeDesc) (hu : P.underlying ty = some d) (hd : (match d with | .struct _ | .array _ _ => true | _ => false) = true) (hi : (P.info? ty).map (·.size) = some cs.size) : (execOp ρ o).run P w = .ok (.value (.agg cs)) w := by
  unfold execOp
  simp only [ho, hx, Instr.loadAt, Instr.sureAddr, Sem.run_bind, Sem.run_pure, Result.andThen_ok, run_loadVar_row w g t ty cs (0, 0) d hg hu hd hi]
theorem size33' (xs : List Int) (h : xs.length = 16) : (Try.prog.info? 33).map (·.size) = some (enc xs).size := size33 xs h

set_option maxRecDepth 100000 in
set_option maxHeartbeats 1000000 in
theorem plays_few (b off len cap : Nat) (kd k x y : Nat → Int) (at_ : Int) (w : World) (hl : len ≤ 60) (hA : Acts w b off len kd k x y) (hbw : b < w.heap.size) :
    Calls Try.prog 3 #[.slice (some ⟨b, off, none⟩) len cap, .int .i64 at_] w fun e w' => e = .returned (.bool true) ∧ Below w.heap.size w w' := by
  have hm : len ≤ 9223372036854775807 := by omega
  go_enter Try.func3, Try.ntmps3
  go_wp2_with (first | (go_at_call 4; refine (lives_any _).mono ?_; rintro e w1 ⟨rfl, hb1⟩))
  have hT : Tl ((w1.alloc (.cells (enc (List.replicate 16 0)) 31)).alloc (.cells (enc (List.replicate 16 0)) 33)) w1.heap.size (List.replicate 16 0) 31 := ⟨(Blk.new _ _ _).alloc _, rfl⟩
  have hW : Tl ((w1.alloc (.cells (enc (List.replicate 16 0)) 31)).alloc (.cells (enc (List.replicate 16 0)) 33)) (w1.heap.size + 1) (List.replicate 16 0) 33 := ⟨by have := Blk.new (w1.alloc (.cells (enc (List.replicate 16 0)) 31)) (enc (List.replicate 16 0)) 33; rwa [World.size_alloc] at this, rfl⟩
  have hB0 : Below w.heap.size w ((w1.alloc (.cells (enc (List.replicate 16 0)) 31)).alloc (.cells (enc (List.replicate 16 0)) 33)) := (hb1.alloc hb1.size _).alloc (by simp; have := hb1.size; omega) _
  have hsz1 := hb1.size
  obtain ⟨B, hB⟩ : ∃ B, w1.heap.size = B := ⟨_, rfl⟩
  rw [zeros16, hB] at hT hW
  rw [zeros16] at hB0
  rw [hB] at hsz1
  generalize (w1.alloc (.cells #[.int .i64 0, .int .i64 0, .int .i64 0, .int .i64 0, .int .i64 0, .int .i64 0, .int .i64 0, .int .i64 0, .int .i64 0, .int .i64 0, .int .i64 0, .int .i64 0, .int .i64 0, .int .i64 0, .int .i64 0, .int .i64 0] 31)).alloc (.cells #[.int .i64 0, .int .i64 0, .int .i64 0, .int .i64 0, .int .i64 0, .int .i64 0, .int .i64 0, .int .i64 0, .int .i64 0, .int .i64 0, .int .i64 0, .int .i64 0, .int .i64 0, .int .i64 0, .int .i64 0, .int .i64 0] 33) = W0 at *
  rw [hB]
  clear hB hb1
  go_loopg [29] len (fun g c wr => ∃ (i : Nat) (xs : List Int), i ≤ len ∧ g = len - i ∧ c = .int .i64 i ∧ Tl wr B xs 31 ∧ Tl wr (B + 1) xs 33 ∧ Below w.heap.size w wr)
  case atStart => exact ⟨0, _, by omega, by omega, rfl, hT, hW, hB0⟩
  case round =>
    obtain ⟨i, xs, hi, rfl, rfl, hT, hW, hBel⟩ := hrel
    by_cases hlt : i < len
    · have hA' := hA.below hBel hbw
      have f0 := hA'.c0 i hlt
      have f1 := hA'.c1 i hlt
      have f2 := hA'.c2 i hlt
      have f3 := hA'.c3 i hlt
      have hr := hA'.r i hlt
      obtain ⟨r0, r1⟩ := hr
      generalize kd i = kd at *
      generalize k i = k at *
      generalize x i = x at *
      generalize y i = y at *
      have hBlt := hW.blk.lt
      have hst : St w B wr.heap.size xs xs k x y (wr.alloc (.cells #[.int .u8 kd, .int .i64 k, .int .i64 x, .int .i64 y] 35)) := St.start hT hW hBel
      have g0 : (wr.alloc (.cells #[.int .u8 kd, .int .i64 k, .int .i64 x, .int .i64 y] 35)).cell? ⟨wr.heap.size, 0, none⟩ = some (.int .u8 kd) := (Blk.new wr _ 35).cell 0
      go_upto_block 2 with fail
      generalize wr.alloc (.cells #[.int .u8 kd, .int .i64 k, .int .i64 x, .int .i64 y] 35) = W1 at *
      obtain ⟨S, hS⟩ : ∃ S, wr.heap.size = S := ⟨_, rfl⟩
      rw [hS] at hst hBlt ⊢
      clear hS hT hW hBel f0 f1 f2 f3 g0 hA'
      have n1 : S ≠ B := by omega
      have n2 : S ≠ B + 1 := by omega
      have xl := Lib.hid hst.t.len
      go_cut [] (fun wc => ∃ zs, Tl wc B zs 31 ∧ Tl wc (B + 1) zs 33 ∧ Below w.heap.size w wc)
      case first =>
        by_cases m0 : kd % 4 = 0
        · have m0' : (kd % 4 == 0) = true := by simpa using m0
          have M0 := Lib.hid m0
          clear m0
          have d1 := hst.c1
          have d2 := hst.c2
          go_wp2_with (first
            | (refine wpList_load_row rfl 33 (.tmp 6) rfl (B + 1) rfl 33 (enc xs) (0, 0) (.array 16 2) hst.r.blk (by kernel_rfl) rfl (size33 _ xl.out) ?_))
          refine (radd_tl xs k x _ xl.out).mono ?_
          rintro e w2 ⟨rfl, hb2⟩
          have hst2 := hst.below hb2
          have hl2 : (addF xs k x).1.length = 16 := by rw [addF_len, xl.out]
          generalize hF : addF xs k x = F at *
          obtain ⟨zs, r⟩ := F
          have HF := Lib.hid hF
          clear hF d1 d2 hb2
          go_wp2_with (first
            | (refine wpList_alloc_abs rfl 33 rfl (.agg (enc (List.replicate 16 0))) (by kernel_rfl) ?_; intro w3 hk3 hb3 hs3)
            | (refine wpList_store_abs rfl 33 (.tmp 9) (.tmp 70) rfl w2.heap.size rfl (enc zs) rfl 33 (enc (List.replicate 16 0)) hk3 (size33 _ hl2) (by rw [enc16 hl2]; rfl) (enc_one _) ?_; intro w4 hk4 ho4)
            | (refine wpList_load_row rfl 33 (.tmp 9) rfl w2.heap.size rfl 33 (enc zs) (0, 0) (.array 16 2) hk4 (by kernel_rfl) rfl (size33 _ hl2) ?_)
            | (refine wpList_store_abs rfl 33 (.tmp 6) (.tmp 72) rfl (B + 1) rfl (enc zs) rfl 33 (enc xs) ((hst2.below hb3).only2 ho4 (by have := hst2.r.blk.lt; omega) (by have := hst2.r.blk.lt; omega) (by have := hst2.lt; omega) (by have := hst2.b.size; omega)).r.blk (size33 _ hl2) (by rw [enc16 hl2, enc16 xl.out]) (enc_one _) ?_; intro w5 hk5 ho5
               have hst5 := ((hst2.below hb3).only2 ho4 (by have := hst2.r.blk.lt; omega) (by have := hst2.r.blk.lt; omega) (by have := hst2.lt; omega) (by have := hst2.b.size; omega)).turn2 ho5 hk5 n2 hsz1 hl2
               have d1 := hst5.c1
               have d2 := hst5.c2)
            | (go_at_call 6; have c6 := add_tl B xs 31 k x _ hst5.t; rw [HF.out] at c6; refine c6.mono ?_; rintro e w6 ⟨rfl, hT6, ho6⟩))
          go_meet
          exact ⟨zs, hT6, hst5.r.only ho6 (by omega), below_only hst5.b ho6 hsz1⟩
        · by_cases m1 : kd % 4 = 1
          · have m0' : (kd % 4 == 0) = false := by simpa using m0
            have m1' : (kd % 4 == 1) = true := by simpa using m1
            clear m0 m1
            go_upto_region 19 with fail
            obtain ⟨zs, hz⟩ : ∃ zs, (setF xs k x (decide (getF xs k < x))).1 = zs := ⟨_, rfl⟩
            obtain ⟨r, hr⟩ : ∃ r, (setF xs k x (decide (getF xs k < x))).2 = r := ⟨_, rfl⟩
            have zl : zs.length = 16 := by rw [← hz, setF_len, xl.out]
            refine wp_region_lits (by kernel_rfl) (by kernel_rfl) (by kernel_rfl) (by rfl)
              (fun i v => match i with
                | 0 => v = .agg (enc xs) | 1 => v = .pointer (some ⟨S, 1, none⟩) | 2 => v = .int .i64 k | 3 => v = .pointer (some ⟨S, 2, none⟩) | 4 => v = .int .i64 x | 5 => v = .agg (enc xs) | 6 => v = .pointer (some ⟨S, 1, none⟩) | 7 => v = .int .i64 k | 8 => v = .int .i64 (getF xs k) | 9 => v = .pointer (some ⟨S, 2, none⟩) | 10 => v = .int .i64 x | 11 => v = .bool (decide (getF xs k < x)) | 12 => v = .tuple #[.agg (enc zs), .bool r] | 13 => v = .tuple #[.agg (enc zs), .bool r] | 14 => v = .agg (enc zs) | 15 => v = .bool r | 18 => v = .bool r | _ => True)
              (fun L σ w' => St w B S xs xs k x y w' ∧ (L 16 = true → ∃ g cs, σ 16 = .pointer (some ⟨g, 0, none⟩) ∧ B + 1 < g ∧ S < g ∧ w.heap.size ≤ g ∧ Blk w' g cs 33 ∧ cs.size = 16 ∧ (L 17 = true → cs = enc zs)))
              ?init ?steps ?fin
            case init => exact ⟨hst.below ((Below.refl _ _).drew), (fun h => nomatch h)⟩
            case steps =>
              have eF8 := enters_of Try.func8 (by kernel_rfl) rfl
              have eF7 := enters_of Try.func7 (by kernel_rfl) rfl
              have keep : ∀ (L : Nat → Bool) (σ : Nat → Value) (W : World) (i : Nat) (v : Value), i ≠ 16 → i ≠ 17 → (St w B S xs xs k x y W ∧ (L 16 = true → ∃ g cs, σ 16 = .pointer (some ⟨g, 0, none⟩) ∧ B + 1 < g ∧ S < g ∧ w.heap.size ≤ g ∧ Blk W g cs 33 ∧ cs.size = 16 ∧ (L 17 = true → cs = enc zs))) → (St w B S xs xs k x y W ∧ ((fun j => L j || j == i) 16 = true → ∃ g cs, (fun j => if j = i then v else σ j) 16 = .pointer (some ⟨g, 0, none⟩) ∧ B + 1 < g ∧ S < g ∧ w.heap.size ≤ g ∧ Blk W g cs 33 ∧ cs.size = 16 ∧ ((fun j => L j || j == i) 17 = true → cs = enc zs))) := by
                intro L σ W i v h16 h17 ⟨h1, h2⟩
                refine ⟨h1, ?_⟩
                have e1 : (16 == i) = false := by simp; omega
                have e2 : (17 == i) = false := by simp; omega
                have e3 : ¬ 16 = i := by omega
                simpa [e1, e2, e3] using h2
              have keepW : ∀ (L : Nat → Bool) (σ : Nat → Value) (W W' : World), (St w B S xs xs k x y W ∧ (L 16 = true → ∃ g cs, σ 16 = .pointer (some ⟨g, 0, none⟩) ∧ B + 1 < g ∧ S < g ∧ w.heap.size ≤ g ∧ Blk W g cs 33 ∧ cs.size = 16 ∧ (L 17 = true → cs = enc zs))) → Below W.heap.size W W' → (St w B S xs xs k x y W' ∧ (L 16 = true → ∃ g cs, σ 16 = .pointer (some ⟨g, 0, none⟩) ∧ B + 1 < g ∧ S < g ∧ w.heap.size ≤ g ∧ Blk W' g cs 33 ∧ cs.size = 16 ∧ (L 17 = true → cs = enc zs))) := by
                intro L σ W W' ⟨h1, h2⟩ hb
                refine ⟨h1.below hb, fun hL => ?_⟩
                obtain ⟨g, cs, e1, e2, e3, e4, e5, e6, e7⟩ := h2 hL
                exact ⟨g, cs, e1, e2, e3, e4, e5.below hb e5.lt, e6, e7⟩
              refine ⟨?_, ?_, ?_, ?_, ?_, ?_, ?_, ?_, ?_, ?_, ?_, ?_, ?_, ?_, ?_, ?_, ?_, ?_, ?_, trivial⟩
              · refine stepOK_val rfl fun L σ a w' hJ hd hI => ⟨_, ?_, rfl, keep _ _ _ _ _ (by decide) (by decide) hI⟩
                have o6 := hJ.old 6 (by kernel_rfl)
                exact run_exec_load_row 33 (.tmp 6) rfl (B + 1) o6 33 (enc xs) hI.1.r.blk (.array 16 2) (by kernel_rfl) rfl (size33 _ xl.out)
              · refine stepOK_val rfl fun L σ a w' hJ hd hI => ⟨_, ?_, rfl, keep _ _ _ _ _ (by decide) (by decide) hI⟩
                have o8 := hJ.old 8 (by kernel_rfl)
                simp only [execOp, o8]; go_simp
              · refine stepOK_val rfl fun L σ a w' hJ hd hI => ⟨_, ?_, rfl, keep _ _ _ _ _ (by decide) (by decide) hI⟩
                have g84 : a.eval (.tmp 84) = .pointer (some ⟨S, 1, none⟩) := (hJ.get 1 84 (hd 1 (by decide)) rfl).trans (hJ.val 1 (hd 1 (by decide)))
                simp only [execOp, g84]; have c := hI.1.c1; go_simp
              · refine stepOK_val rfl fun L σ a w' hJ hd hI => ⟨_, ?_, rfl, keep _ _ _ _ _ (by decide) (by decide) hI⟩
                have o8 := hJ.old 8 (by kernel_rfl)
                simp only [execOp, o8]; go_simp
              · refine stepOK_val rfl fun L σ a w' hJ hd hI => ⟨_, ?_, rfl, keep _ _ _ _ _ (by decide) (by decide) hI⟩
                have g86 : a.eval (.tmp 86) = .pointer (some ⟨S, 2, none⟩) := (hJ.get 3 86 (hd 3 (by decide)) rfl).trans (hJ.val 3 (hd 3 (by decide)))
                simp only [execOp, g86]; have c := hI.1.c2; go_simp
              · refine stepOK_val rfl fun L σ a w' hJ hd hI => ⟨_, ?_, rfl, keep _ _ _ _ _ (by decide) (by decide) hI⟩
                have o6 := hJ.old 6 (by kernel_rfl)
                exact run_exec_load_row 33 (.tmp 6) rfl (B + 1) o6 33 (enc xs) hI.1.r.blk (.array 16 2) (by kernel_rfl) rfl (size33 _ xl.out)
              · refine stepOK_val rfl fun L σ a w' hJ hd hI => ⟨_, ?_, rfl, keep _ _ _ _ _ (by decide) (by decide) hI⟩
                have o8 := hJ.old 8 (by kernel_rfl)
                simp only [execOp, o8]; go_simp
              · refine stepOK_val rfl fun L σ a w' hJ hd hI => ⟨_, ?_, rfl, keep _ _ _ _ _ (by decide) (by decide) hI⟩
                have g89 : a.eval (.tmp 89) = .pointer (some ⟨S, 1, none⟩) := (hJ.get 6 89 (hd 6 (by decide)) rfl).trans (hJ.val 6 (hd 6 (by decide)))
                simp only [execOp, g89]; have c := hI.1.c1; go_simp
              · refine stepOK_call rfl 8 #[.tmp 88, .tmp 90] #[33, 3] rfl eF8 fun L σ a w' hJ hd hI => ?_
                have g88 : a.eval (.tmp 88) = .agg (enc xs) := (hJ.get 5 88 (hd 5 (by decide)) rfl).trans (hJ.val 5 (hd 5 (by decide)))
                have g90 : a.eval (.tmp 90) = .int .i64 k := (hJ.get 7 90 (hd 7 (by decide)) rfl).trans (hJ.val 7 (hd 7 (by decide)))
                have e3 : (#[Operand.tmp 88, Operand.tmp 90]).map a.eval = #[.agg (enc xs), .int .i64 k] := by simp [g88, g90]
                rw [e3]
                refine (rget_tl xs k w' xl.out).mono ?_
                rintro e w2 ⟨rfl, hb2⟩
                exact ⟨_, rfl, rfl, keep _ _ _ _ _ (by decide) (by decide) (keepW _ _ _ _ hI hb2)⟩
              · refine stepOK_val rfl fun L σ a w' hJ hd hI => ⟨_, ?_, rfl, keep _ _ _ _ _ (by decide) (by decide) hI⟩
                have o8 := hJ.old 8 (by kernel_rfl)
                simp only [execOp, o8]; go_simp
              · refine stepOK_val rfl fun L σ a w' hJ hd hI => ⟨_, ?_, rfl, keep _ _ _ _ _ (by decide) (by decide) hI⟩
                have g92 : a.eval (.tmp 92) = .pointer (some ⟨S, 2, none⟩) := (hJ.get 9 92 (hd 9 (by decide)) rfl).trans (hJ.val 9 (hd 9 (by decide)))
                simp only [execOp, g92]; have c := hI.1.c2; go_simp
              · refine stepOK_val rfl fun L σ a w' hJ hd hI => ⟨_, ?_, rfl, keep _ _ _ _ _ (by decide) (by decide) hI⟩
                have g91 : a.eval (.tmp 91) = .int .i64 (getF xs k) := (hJ.get 8 91 (hd 8 (by decide)) rfl).trans (hJ.val 8 (hd 8 (by decide)))
                have g93 : a.eval (.tmp 93) = .int .i64 x := (hJ.get 10 93 (hd 10 (by decide)) rfl).trans (hJ.val 10 (hd 10 (by decide)))
                simp only [execOp, g91, g93]; go_simp
              · refine stepOK_call rfl 7 #[.tmp 83, .tmp 85, .tmp 87, .tmp 94] #[33, 3, 2, 4] rfl eF7 fun L σ a w' hJ hd hI => ?_
                have g83 : a.eval (.tmp 83) = .agg (enc xs) := (hJ.get 0 83 (hd 0 (by decide)) rfl).trans (hJ.val 0 (hd 0 (by decide)))
                have g85 : a.eval (.tmp 85) = .int .i64 k := (hJ.get 2 85 (hd 2 (by decide)) rfl).trans (hJ.val 2 (hd 2 (by decide)))
                have g87 : a.eval (.tmp 87) = .int .i64 x := (hJ.get 4 87 (hd 4 (by decide)) rfl).trans (hJ.val 4 (hd 4 (by decide)))
                have g94 : a.eval (.tmp 94) = .bool (decide (getF xs k < x)) := (hJ.get 11 94 (hd 11 (by decide)) rfl).trans (hJ.val 11 (hd 11 (by decide)))
                have e5 : (#[Operand.tmp 83, Operand.tmp 85, Operand.tmp 87, Operand.tmp 94]).map a.eval = #[.agg (enc xs), .int .i64 k, .int .i64 x, .bool (decide (getF xs k < x))] := by simp [g83, g85, g87, g94]
                rw [e5]
                refine (rset_tl xs k x _ w' xl.out).mono ?_
                rintro e w2 ⟨rfl, hb2⟩
                rw [hz, hr]
                exact ⟨_, rfl, rfl, keep _ _ _ _ _ (by decide) (by decide) (keepW _ _ _ _ hI hb2)⟩
              · refine stepOK_val rfl fun L σ a w' hJ hd hI => ⟨_, ?_, rfl, keep _ _ _ _ _ (by decide) (by decide) hI⟩
                have g95 : a.eval (.tmp 95) = .tuple #[.agg (enc zs), .bool r] := (hJ.get 12 95 (hd 12 (by decide)) rfl).trans (hJ.val 12 (hd 12 (by decide)))
                simp only [execOp, g95]; go_simp
              · refine stepOK_val rfl fun L σ a w' hJ hd hI => ⟨_, ?_, rfl, keep _ _ _ _ _ (by decide) (by decide) hI⟩
                have g82 : a.eval (.tmp 82) = .tuple #[.agg (enc zs), .bool r] := (hJ.get 13 82 (hd 13 (by decide)) rfl).trans (hJ.val 13 (hd 13 (by decide)))
                simp only [execOp, g82]; go_simp
              · refine stepOK_val rfl fun L σ a w' hJ hd hI => ⟨_, ?_, rfl, keep _ _ _ _ _ (by decide) (by decide) hI⟩
                have g82 : a.eval (.tmp 82) = .tuple #[.agg (enc zs), .bool r] := (hJ.get 13 82 (hd 13 (by decide)) rfl).trans (hJ.val 13 (hd 13 (by decide)))
                simp only [execOp, g82]; go_simp
              · refine stepOK_op rfl fun L σ a w' hJ hL hd hI => ?_
                refine oper_alloc_abs 33 rfl (.agg (enc (List.replicate 16 0))) (by kernel_rfl) fun w2 hk2 hb2 hs2 => ⟨_, rfl, trivial, ?_⟩
                have h1 := hI.1
                have l1 := h1.r.blk.lt
                have l2 := h1.lt
                have l3 := h1.b.size
                have n17 : L 17 = false := by
                  cases h17 : L 17 with
                  | false => rfl
                  | true => exact absurd (hJ.wait (i := 17) rfl h17 (j := 16) (by decide)) (by rw [hL]; decide)
                exact ⟨h1.below hb2, fun _ => ⟨_, _, rfl, l1, l2, l3, hk2, rfl, fun h => by simp [n17] at h⟩⟩
              · refine stepOK_op rfl fun L σ a w' hJ hL hd hI => ?_
                have g96 : a.eval (.tmp 96) = .agg (enc zs) := (hJ.get 14 96 (hd 14 (by decide)) rfl).trans (hJ.val 14 (hd 14 (by decide)))
                have h16 := hd 16 (by decide)
                obtain ⟨g, cs, e1, e2, e3, e4, e5, e6, e7⟩ := hI.2 h16
                have g16 : a.eval (.tmp 11) = .pointer (some ⟨g, 0, none⟩) := (hJ.get 16 11 h16 rfl).trans e1
                refine oper_store_abs 33 (.tmp 11) (.tmp 96) rfl g g16 (enc zs) g96 33 cs e5 (size33 _ zl) (by rw [enc16 zl, e6]) (enc_one _) fun w2 hk2 ho2 => ⟨_, rfl, trivial, hI.1.only2 ho2 (by omega) (by omega) (by omega) e4, fun _ => ⟨g, _, by simpa using e1, e2, e3, e4, hk2, enc16 zl, fun _ => rfl⟩⟩
              · refine stepOK_val rfl fun L σ a w' hJ hd hI => ⟨_, ?_, rfl, keep _ _ _ _ _ (by decide) (by decide) hI⟩
                have g97 : a.eval (.tmp 97) = .bool r := (hJ.get 15 97 (hd 15 (by decide)) rfl).trans (hJ.val 15 (hd 15 (by decide)))
                simp only [execOp, g97]; go_simp
            case fin =>
              intro σ w2 hv hI
              obtain ⟨hst2, h16⟩ := hI
              obtain ⟨g, cs, e1, e2, e3, e4, e5, e6, e7⟩ := h16 rfl
              have e8 := e7 rfl
              subst e8
              have z11 := e1
              have z12 : σ 18 = .bool r := hv 18 (by decide)
              simp only [putsL, List.set_cons_succ, List.set_cons_zero, z11, z12]
              clear h16 hv z11 z12 e1 e6 e7
              go_wp2_with (first
                | (refine wpList_load_row rfl 33 (.tmp 11) rfl g rfl 33 (enc zs) (0, 0) (.array 16 2) e5 (by kernel_rfl) rfl (size33 _ zl) ?_)
                | (refine wpList_store_abs rfl 33 (.tmp 6) (.tmp 98) rfl (B + 1) rfl (enc zs) rfl 33 (enc xs) hst2.r.blk (size33 _ zl) (by rw [enc16 zl, enc16 xl.out]) (enc_one _) ?_; intro w5 hk5 ho5; have hst5 := hst2.turn2 ho5 hk5 n2 hsz1 zl; have d1 := hst5.c1; have d2 := hst5.c2; have d3 := hst5.c3)
                | (go_at_call 9; have c6 := raise_tl B xs 31 k x _ hst5.t; rw [hz, hr] at c6; refine c6.mono ?_; rintro e w6 ⟨rfl, hT6, ho6⟩))
              go_meet
              exact ⟨zs, hT6, hst5.r.only ho6 (by omega), below_only hst5.b ho6 hsz1⟩
          · by_cases m2 : kd % 4 = 2
            · have m0' : (kd % 4 == 0) = false := by simpa using m0
              have m1' : (kd % 4 == 1) = false := by simpa using m1
              have m2' : (kd % 4 == 2) = true := by simpa using m2
              clear m0 m1 m2
              go_upto_region 24 with fail
              obtain ⟨zs, hz⟩ : ∃ zs, (setF xs k y (getF xs k == x)).1 = zs := ⟨_, rfl⟩
              obtain ⟨r, hr⟩ : ∃ r, (setF xs k y (getF xs k == x)).2 = r := ⟨_, rfl⟩
              have zl : zs.length = 16 := by rw [← hz, setF_len, xl.out]
              refine wp_region_lits (by kernel_rfl) (by kernel_rfl) (by kernel_rfl) (by rfl)
                (fun i v => match i with
                  | 0 => v = .agg (enc xs) | 1 => v = .pointer (some ⟨S, 1, none⟩) | 2 => v = .int .i64 k | 3 => v = .pointer (some ⟨S, 3, none⟩) | 4 => v = .int .i64 y | 5 => v = .agg (enc xs) | 6 => v = .pointer (some ⟨S, 1, none⟩) | 7 => v = .int .i64 k | 8 => v = .int .i64 (getF xs k) | 9 => v = .pointer (some ⟨S, 2, none⟩) | 10 => v = .int .i64 x | 11 => v = .bool (getF xs k == x) | 12 => v = .tuple #[.agg (enc zs), .bool r] | 13 => v = .tuple #[.agg (enc zs), .bool r] | 14 => v = .agg (enc zs) | 15 => v = .bool r | 18 => v = .bool r | _ => True)
                (fun L σ w' => St w B S xs xs k x y w' ∧ (L 16 = true → ∃ g cs, σ 16 = .pointer (some ⟨g, 0, none⟩) ∧ B + 1 < g ∧ S < g ∧ w.heap.size ≤ g ∧ Blk w' g cs 33 ∧ cs.size = 16 ∧ (L 17 = true → cs = enc zs)))
                ?init ?steps ?fin
              case init => exact ⟨hst.below ((Below.refl _ _).drew), (fun h => nomatch h)⟩
              case steps =>
                have eF8 := enters_of Try.func8 (by kernel_rfl) rfl
                have eF7 := enters_of Try.func7 (by kernel_rfl) rfl
                have keep : ∀ (L : Nat → Bool) (σ : Nat → Value) (W : World) (i : Nat) (v : Value), i ≠ 16 → i ≠ 17 → (St w B S xs xs k x y W ∧ (L 16 = true → ∃ g cs, σ 16 = .pointer (some ⟨g, 0, none⟩) ∧ B + 1 < g ∧ S < g ∧ w.heap.size ≤ g ∧ Blk W g cs 33 ∧ cs.size = 16 ∧ (L 17 = true → cs = enc zs))) → (St w B S xs xs k x y W ∧ ((fun j => L j || j == i) 16 = true → ∃ g cs, (fun j => if j = i then v else σ j) 16 = .pointer (some ⟨g, 0, none⟩) ∧ B + 1 < g ∧ S < g ∧ w.heap.size ≤ g ∧ Blk W g cs 33 ∧ cs.size = 16 ∧ ((fun j => L j || j == i) 17 = true → cs = enc zs))) := by
                  intro L σ W i v h16 h17 ⟨h1, h2⟩
                  refine ⟨h1, ?_⟩
                  have e1 : (16 == i) = false := by simp; omega
                  have e2 : (17 == i) = false := by simp; omega
                  have e3 : ¬ 16 = i := by omega
                  simpa [e1, e2, e3] using h2
                have keepW : ∀ (L : Nat → Bool) (σ : Nat → Value) (W W' : World), (St w B S xs xs k x y W ∧ (L 16 = true → ∃ g cs, σ 16 = .pointer (some ⟨g, 0, none⟩) ∧ B + 1 < g ∧ S < g ∧ w.heap.size ≤ g ∧ Blk W g cs 33 ∧ cs.size = 16 ∧ (L 17 = true → cs = enc zs))) → Below W.heap.size W W' → (St w B S xs xs k x y W' ∧ (L 16 = true → ∃ g cs, σ 16 = .pointer (some ⟨g, 0, none⟩) ∧ B + 1 < g ∧ S < g ∧ w.heap.size ≤ g ∧ Blk W' g cs 33 ∧ cs.size = 16 ∧ (L 17 = true → cs = enc zs))) := by
                  intro L σ W W' ⟨h1, h2⟩ hb
                  refine ⟨h1.below hb, fun hL => ?_⟩
                  obtain ⟨g, cs, e1, e2, e3, e4, e5, e6, e7⟩ := h2 hL
                  exact ⟨g, cs, e1, e2, e3, e4, e5.below hb e5.lt, e6, e7⟩
                refine ⟨?_, ?_, ?_, ?_, ?_, ?_, ?_, ?_, ?_, ?_, ?_, ?_, ?_, ?_, ?_, ?_, ?_, ?_, ?_, trivial⟩
                · refine stepOK_val rfl fun L σ a w' hJ hd hI => ⟨_, ?_, rfl, keep _ _ _ _ _ (by decide) (by decide) hI⟩
                  have o6 := hJ.old 6 (by kernel_rfl)
                  exact run_exec_load_row 33 (.tmp 6) rfl (B + 1) o6 33 (enc xs) hI.1.r.blk (.array 16 2) (by kernel_rfl) rfl (size33 _ xl.out)
                · refine stepOK_val rfl fun L σ a w' hJ hd hI => ⟨_, ?_, rfl, keep _ _ _ _ _ (by decide) (by decide) hI⟩
                  have o8 := hJ.old 8 (by kernel_rfl)
                  simp only [execOp, o8]; go_simp
                · refine stepOK_val rfl fun L σ a w' hJ hd hI => ⟨_, ?_, rfl, keep _ _ _ _ _ (by decide) (by decide) hI⟩
                  have g110 : a.eval (.tmp 110) = .pointer (some ⟨S, 1, none⟩) := (hJ.get 1 110 (hd 1 (by decide)) rfl).trans (hJ.val 1 (hd 1 (by decide)))
                  simp only [execOp, g110]; have c := hI.1.c1; go_simp
                · refine stepOK_val rfl fun L σ a w' hJ hd hI => ⟨_, ?_, rfl, keep _ _ _ _ _ (by decide) (by decide) hI⟩
                  have o8 := hJ.old 8 (by kernel_rfl)
                  simp only [execOp, o8]; go_simp
                · refine stepOK_val rfl fun L σ a w' hJ hd hI => ⟨_, ?_, rfl, keep _ _ _ _ _ (by decide) (by decide) hI⟩
                  have g112 : a.eval (.tmp 112) = .pointer (some ⟨S, 3, none⟩) := (hJ.get 3 112 (hd 3 (by decide)) rfl).trans (hJ.val 3 (hd 3 (by decide)))
                  simp only [execOp, g112]; have c := hI.1.c3; go_simp
                · refine stepOK_val rfl fun L σ a w' hJ hd hI => ⟨_, ?_, rfl, keep _ _ _ _ _ (by decide) (by decide) hI⟩
                  have o6 := hJ.old 6 (by kernel_rfl)
                  exact run_exec_load_row 33 (.tmp 6) rfl (B + 1) o6 33 (enc xs) hI.1.r.blk (.array 16 2) (by kernel_rfl) rfl (size33 _ xl.out)
                · refine stepOK_val rfl fun L σ a w' hJ hd hI => ⟨_, ?_, rfl, keep _ _ _ _ _ (by decide) (by decide) hI⟩
                  have o8 := hJ.old 8 (by kernel_rfl)
                  simp only [execOp, o8]; go_simp
                · refine stepOK_val rfl fun L σ a w' hJ hd hI => ⟨_, ?_, rfl, keep _ _ _ _ _ (by decide) (by decide) hI⟩
                  have g115 : a.eval (.tmp 115) = .pointer (some ⟨S, 1, none⟩) := (hJ.get 6 115 (hd 6 (by decide)) rfl).trans (hJ.val 6 (hd 6 (by decide)))
                  simp only [execOp, g115]; have c := hI.1.c1; go_simp
                · refine stepOK_call rfl 8 #[.tmp 114, .tmp 116] #[33, 3] rfl eF8 fun L σ a w' hJ hd hI => ?_
                  have g114 : a.eval (.tmp 114) = .agg (enc xs) := (hJ.get 5 114 (hd 5 (by decide)) rfl).trans (hJ.val 5 (hd 5 (by decide)))
                  have g116 : a.eval (.tmp 116) = .int .i64 k := (hJ.get 7 116 (hd 7 (by decide)) rfl).trans (hJ.val 7 (hd 7 (by decide)))
                  have e3 : (#[Operand.tmp 114, Operand.tmp 116]).map a.eval = #[.agg (enc xs), .int .i64 k] := by simp [g114, g116]
                  rw [e3]
                  refine (rget_tl xs k w' xl.out).mono ?_
                  rintro e w2 ⟨rfl, hb2⟩
                  exact ⟨_, rfl, rfl, keep _ _ _ _ _ (by decide) (by decide) (keepW _ _ _ _ hI hb2)⟩
                · refine stepOK_val rfl fun L σ a w' hJ hd hI => ⟨_, ?_, rfl, keep _ _ _ _ _ (by decide) (by decide) hI⟩
                  have o8 := hJ.old 8 (by kernel_rfl)
                  simp only [execOp, o8]; go_simp
                · refine stepOK_val rfl fun L σ a w' hJ hd hI => ⟨_, ?_, rfl, keep _ _ _ _ _ (by decide) (by decide) hI⟩
                  have g118 : a.eval (.tmp 118) = .pointer (some ⟨S, 2, none⟩) := (hJ.get 9 118 (hd 9 (by decide)) rfl).trans (hJ.val 9 (hd 9 (by decide)))
                  simp only [execOp, g118]; have c := hI.1.c2; go_simp
                · refine stepOK_val rfl fun L σ a w' hJ hd hI => ⟨_, ?_, rfl, keep _ _ _ _ _ (by decide) (by decide) hI⟩
                  have g117 : a.eval (.tmp 117) = .int .i64 (getF xs k) := (hJ.get 8 117 (hd 8 (by decide)) rfl).trans (hJ.val 8 (hd 8 (by decide)))
                  have g119 : a.eval (.tmp 119) = .int .i64 x := (hJ.get 10 119 (hd 10 (by decide)) rfl).trans (hJ.val 10 (hd 10 (by decide)))
                  simp only [execOp, g117, g119]; go_simp
                · refine stepOK_call rfl 7 #[.tmp 109, .tmp 111, .tmp 113, .tmp 120] #[33, 3, 2, 4] rfl eF7 fun L σ a w' hJ hd hI => ?_
                  have g109 : a.eval (.tmp 109) = .agg (enc xs) := (hJ.get 0 109 (hd 0 (by decide)) rfl).trans (hJ.val 0 (hd 0 (by decide)))
                  have g111 : a.eval (.tmp 111) = .int .i64 k := (hJ.get 2 111 (hd 2 (by decide)) rfl).trans (hJ.val 2 (hd 2 (by decide)))
                  have g113 : a.eval (.tmp 113) = .int .i64 y := (hJ.get 4 113 (hd 4 (by decide)) rfl).trans (hJ.val 4 (hd 4 (by decide)))
                  have g120 : a.eval (.tmp 120) = .bool (getF xs k == x) := (hJ.get 11 120 (hd 11 (by decide)) rfl).trans (hJ.val 11 (hd 11 (by decide)))
                  have e5 : (#[Operand.tmp 109, Operand.tmp 111, Operand.tmp 113, Operand.tmp 120]).map a.eval = #[.agg (enc xs), .int .i64 k, .int .i64 y, .bool (getF xs k == x)] := by simp [g109, g111, g113, g120]
                  rw [e5]
                  refine (rset_tl xs k y _ w' xl.out).mono ?_
                  rintro e w2 ⟨rfl, hb2⟩
                  rw [hz, hr]
                  exact ⟨_, rfl, rfl, keep _ _ _ _ _ (by decide) (by decide) (keepW _ _ _ _ hI hb2)⟩
                · refine stepOK_val rfl fun L σ a w' hJ hd hI => ⟨_, ?_, rfl, keep _ _ _ _ _ (by decide) (by decide) hI⟩
                  have g121 : a.eval (.tmp 121) = .tuple #[.agg (enc zs), .bool r] := (hJ.get 12 121 (hd 12 (by decide)) rfl).trans (hJ.val 12 (hd 12 (by decide)))
                  simp only [execOp, g121]; go_simp
                · refine stepOK_val rfl fun L σ a w' hJ hd hI => ⟨_, ?_, rfl, keep _ _ _ _ _ (by decide) (by decide) hI⟩
                  have g108 : a.eval (.tmp 108) = .tuple #[.agg (enc zs), .bool r] := (hJ.get 13 108 (hd 13 (by decide)) rfl).trans (hJ.val 13 (hd 13 (by decide)))
                  simp only [execOp, g108]; go_simp
                · refine stepOK_val rfl fun L σ a w' hJ hd hI => ⟨_, ?_, rfl, keep _ _ _ _ _ (by decide) (by decide) hI⟩
                  have g108 : a.eval (.tmp 108) = .tuple #[.agg (enc zs), .bool r] := (hJ.get 13 108 (hd 13 (by decide)) rfl).trans (hJ.val 13 (hd 13 (by decide)))
                  simp only [execOp, g108]; go_simp
                · refine stepOK_op rfl fun L σ a w' hJ hL hd hI => ?_
                  refine oper_alloc_abs 33 rfl (.agg (enc (List.replicate 16 0))) (by kernel_rfl) fun w2 hk2 hb2 hs2 => ⟨_, rfl, trivial, ?_⟩
                  have h1 := hI.1
                  have l1 := h1.r.blk.lt
                  have l2 := h1.lt
                  have l3 := h1.b.size
                  have n17 : L 17 = false := by
                    cases h17 : L 17 with
                    | false => rfl
                    | true => exact absurd (hJ.wait (i := 17) rfl h17 (j := 16) (by decide)) (by rw [hL]; decide)
                  exact ⟨h1.below hb2, fun _ => ⟨_, _, rfl, l1, l2, l3, hk2, rfl, fun h => by simp [n17] at h⟩⟩
                · refine stepOK_op rfl fun L σ a w' hJ hL hd hI => ?_
                  have g122 : a.eval (.tmp 122) = .agg (enc zs) := (hJ.get 14 122 (hd 14 (by decide)) rfl).trans (hJ.val 14 (hd 14 (by decide)))
                  have h16 := hd 16 (by decide)
                  obtain ⟨g, cs, e1, e2, e3, e4, e5, e6, e7⟩ := hI.2 h16
                  have g16 : a.eval (.tmp 13) = .pointer (some ⟨g, 0, none⟩) := (hJ.get 16 13 h16 rfl).trans e1
                  refine oper_store_abs 33 (.tmp 13) (.tmp 122) rfl g g16 (enc zs) g122 33 cs e5 (size33 _ zl) (by rw [enc16 zl, e6]) (enc_one _) fun w2 hk2 ho2 => ⟨_, rfl, trivial, hI.1.only2 ho2 (by omega) (by omega) (by omega) e4, fun _ => ⟨g, _, by simpa using e1, e2, e3, e4, hk2, enc16 zl, fun _ => rfl⟩⟩
                · refine stepOK_val rfl fun L σ a w' hJ hd hI => ⟨_, ?_, rfl, keep _ _ _ _ _ (by decide) (by decide) hI⟩
                  have g123 : a.eval (.tmp 123) = .bool r := (hJ.get 15 123 (hd 15 (by decide)) rfl).trans (hJ.val 15 (hd 15 (by decide)))
                  simp only [execOp, g123]; go_simp
              case fin =>
                intro σ w2 hv hI
                obtain ⟨hst2, h16⟩ := hI
                obtain ⟨g, cs, e1, e2, e3, e4, e5, e6, e7⟩ := h16 rfl
                have e8 := e7 rfl
                subst e8
                have z11 := e1
                have z12 : σ 18 = .bool r := hv 18 (by decide)
                simp only [putsL, List.set_cons_succ, List.set_cons_zero, z11, z12]
                clear h16 hv z11 z12 e1 e6 e7
                go_wp2_with (first
                  | (refine wpList_load_row rfl 33 (.tmp 13) rfl g rfl 33 (enc zs) (0, 0) (.array 16 2) e5 (by kernel_rfl) rfl (size33 _ zl) ?_)
                  | (refine wpList_store_abs rfl 33 (.tmp 6) (.tmp 124) rfl (B + 1) rfl (enc zs) rfl 33 (enc xs) hst2.r.blk (size33 _ zl) (by rw [enc16 zl, enc16 xl.out]) (enc_one _) ?_; intro w5 hk5 ho5; have hst5 := hst2.turn2 ho5 hk5 n2 hsz1 zl; have d1 := hst5.c1; have d2 := hst5.c2; have d3 := hst5.c3)
                  | (go_at_call 10; have c6 := swap_tl B xs 31 k x y _ hst5.t; rw [hz, hr] at c6; refine c6.mono ?_; rintro e w6 ⟨rfl, hT6, ho6⟩))
                go_meet
                exact ⟨zs, hT6, hst5.r.only ho6 (by omega), below_only hst5.b ho6 hsz1⟩
            · have m0' : (kd % 4 == 0) = false := by simpa using m0
              have m1' : (kd % 4 == 1) = false := by simpa using m1
              have m2' : (kd % 4 == 2) = false := by simpa using m2
              clear m0 m1 m2
              obtain ⟨zs, hzs⟩ : ∃ zs, (addF xs k 1).1 = zs := ⟨_, rfl⟩
              go_upto_region 11 with (first
                | (go_at_call 11; refine (copy_any B xs 31 _ hst.t).mono ?_; rintro e w2 ⟨c, rfl, hc2, hT2, hb2⟩; have hst2 := hst.below hb2; have d1 := hst2.c1)
                | (go_at_call 6; refine (add_tl c xs 31 k 1 _ hT2).mono ?_; rintro e w3 ⟨rfl, hT3, ho3⟩))
              have hst3 := hst2.only2 ho3 (by have := hst.t.blk.lt; omega) (by have := hst.r.blk.lt; omega) (by have := hst.lt; omega) (by have := hst.b.size; omega)
              rw [hzs] at hT3
              clear hT2 ho3 d1 hst2 hb2
              by_cases hk0 : 0 ≤ k
              · by_cases hk1 : k < 16
                · have hb0 : getF zs k = wrap64 (getF xs k + 1) := by
                    rw [← hzs]
                    have e1 : (addF xs k 1).1 = xs.set k.toNat (wrap64 (xs.getD k.toNat 0 + 1)) := by unfold addF; rw [if_pos ⟨hk0, hk1⟩]
                    have hlt : k.toNat < xs.length := by rw [xl.out]; omega
                    rw [e1]
                    unfold getF
                    rw [if_pos ⟨hk0, hk1⟩, if_pos ⟨hk0, hk1⟩]
                    simp [hlt]
                  refine wp_region_lits (by kernel_rfl) (by kernel_rfl) (by kernel_rfl) (by rfl)
                    (fun i v => match i with
                      | 0 => v = .pointer (some ⟨c, 0, none⟩) | 1 => v = .pointer (some ⟨S, 1, none⟩) | 2 => v = .int .i64 k | 3 => v = .int .i64 (getF zs k) | 4 => v = .agg (enc xs) | 5 => v = .pointer (some ⟨S, 1, none⟩) | 6 => v = .int .i64 k | 7 => v = .int .i64 (getF xs k) | 8 => v = .int .i64 (wrap64 (getF xs k + 1)) | 9 => v = .bool false | 10 => v = .bool false | 11 => v = undef | 12 => v = undef | 13 => v = undef | 14 => v = .bool false | 15 => v = .bool false | 16 => v = undef | 17 => v = undef | 18 => v = undef | 19 => v = .bool false | _ => True)
                    (fun L σ w' => St w B S xs xs k x y w' ∧ Tl w' c zs 31)
                    ?init ?steps ?fin
                  case init => exact ⟨hst3.below ((Below.refl _ _).drew), hT3.below ((Below.refl _ _).drew) hT3.blk.lt⟩
                  case steps =>
                    have eF8 := enters_of Try.func8 (by kernel_rfl) rfl
                    have eF12 := enters_of Try.func12 (by kernel_rfl) rfl
                    refine ⟨?_, ?_, ?_, ?_, ?_, ?_, ?_, ?_, ?_, ?_, ?_, ?_, ?_, ?_, ?_, ?_, ?_, ?_, ?_, ?_, trivial⟩
                    · refine stepOK_val rfl fun L σ a w' hJ hd hI => ⟨_, ?_, rfl, hI⟩
                      have o15 := hJ.old 15 (by kernel_rfl)
                      simp only [execOp, o15]; go_simp
                    · refine stepOK_val rfl fun L σ a w' hJ hd hI => ⟨_, ?_, rfl, hI⟩
                      have o8 := hJ.old 8 (by kernel_rfl)
                      simp only [execOp, o8]; go_simp
                    · refine stepOK_val rfl fun L σ a w' hJ hd hI => ⟨_, ?_, rfl, hI⟩
                      have g42 : a.eval (.tmp 42) = .pointer (some ⟨S, 1, none⟩) := (hJ.get 1 42 (hd 1 (by decide)) rfl).trans (hJ.val 1 (hd 1 (by decide)))
                      simp only [execOp, g42]; have c := hI.1.c1; go_simp
                    · refine stepOK_call rfl 12 #[.tmp 41, .tmp 43] #[44, 3] rfl eF12 fun L σ a w' hJ hd hI => ?_
                      have g41 : a.eval (.tmp 41) = .pointer (some ⟨c, 0, none⟩) := (hJ.get 0 41 (hd 0 (by decide)) rfl).trans (hJ.val 0 (hd 0 (by decide)))
                      have g43 : a.eval (.tmp 43) = .int .i64 k := (hJ.get 2 43 (hd 2 (by decide)) rfl).trans (hJ.val 2 (hd 2 (by decide)))
                      have e3 : (#[Operand.tmp 41, Operand.tmp 43]).map a.eval = #[.pointer (some ⟨c, 0, none⟩), .int .i64 k] := by simp [g41, g43]
                      rw [e3]
                      refine (get_tl c zs 31 k w' hI.2).mono ?_
                      rintro e w2 ⟨rfl, rfl⟩
                      exact ⟨_, rfl, rfl, hI⟩
                    · refine stepOK_val rfl fun L σ a w' hJ hd hI => ⟨_, ?_, rfl, hI⟩
                      have o6 := hJ.old 6 (by kernel_rfl)
                      exact run_exec_load_row 33 (.tmp 6) rfl (B + 1) o6 33 (enc xs) hI.1.r.blk (.array 16 2) (by kernel_rfl) rfl (size33 _ xl.out)
                    · refine stepOK_val rfl fun L σ a w' hJ hd hI => ⟨_, ?_, rfl, hI⟩
                      have o8 := hJ.old 8 (by kernel_rfl)
                      simp only [execOp, o8]; go_simp
                    · refine stepOK_val rfl fun L σ a w' hJ hd hI => ⟨_, ?_, rfl, hI⟩
                      have g46 : a.eval (.tmp 46) = .pointer (some ⟨S, 1, none⟩) := (hJ.get 5 46 (hd 5 (by decide)) rfl).trans (hJ.val 5 (hd 5 (by decide)))
                      simp only [execOp, g46]; have c := hI.1.c1; go_simp
                    · refine stepOK_call rfl 8 #[.tmp 45, .tmp 47] #[33, 3] rfl eF8 fun L σ a w' hJ hd hI => ?_
                      have g45 : a.eval (.tmp 45) = .agg (enc xs) := (hJ.get 4 45 (hd 4 (by decide)) rfl).trans (hJ.val 4 (hd 4 (by decide)))
                      have g47 : a.eval (.tmp 47) = .int .i64 k := (hJ.get 6 47 (hd 6 (by decide)) rfl).trans (hJ.val 6 (hd 6 (by decide)))
                      have e3 : (#[Operand.tmp 45, Operand.tmp 47]).map a.eval = #[.agg (enc xs), .int .i64 k] := by simp [g45, g47]
                      rw [e3]
                      refine (rget_tl xs k w' xl.out).mono ?_
                      rintro e w2 ⟨rfl, hb2⟩
                      exact ⟨_, rfl, rfl, hI.1.below hb2, hI.2.below hb2 hI.2.blk.lt⟩
                    · refine stepOK_val rfl fun L σ a w' hJ hd hI => ⟨_, ?_, rfl, hI⟩
                      have g48 : a.eval (.tmp 48) = .int .i64 (getF xs k) := (hJ.get 7 48 (hd 7 (by decide)) rfl).trans (hJ.val 7 (hd 7 (by decide)))
                      simp only [execOp, g48]; go_simp; simp [wrap64, IntKind.wrap_i64]
                    · refine stepOK_val rfl fun L σ a w' hJ hd hI => ⟨_, ?_, rfl, hI⟩
                      have g44 : a.eval (.tmp 44) = .int .i64 (getF zs k) := (hJ.get 3 44 (hd 3 (by decide)) rfl).trans (hJ.val 3 (hd 3 (by decide)))
                      have g49 : a.eval (.tmp 49) = .int .i64 (wrap64 (getF xs k + 1)) := (hJ.get 8 49 (hd 8 (by decide)) rfl).trans (hJ.val 8 (hd 8 (by decide)))
                      simp only [execOp, g44, g49]; have c := hb0; go_simp
                    · refine stepOK_val rfl fun L σ a w' hJ hd hI => ⟨_, ?_, rfl, hI⟩
                      have g50 : a.eval (.tmp 50) = .bool false := (hJ.get 9 50 (hd 9 (by decide)) rfl).trans (hJ.val 9 (hd 9 (by decide)))
                      simp only [execOp, g50]; go_simp
                    · exact stepOK_no (d := 51) rfl rfl (by decide) (fun v h => h) rfl (fun L σ w' hI => hI)
                    · exact stepOK_no (d := 51) rfl rfl (by decide) (fun v h => h) rfl (fun L σ w' hI => hI)
                    · exact stepOK_no (d := 51) rfl rfl (by decide) (fun v h => h) rfl (fun L σ w' hI => hI)
                    · refine stepOK_val rfl fun L σ a w' hJ hd hI => ⟨_, ?_, rfl, hI⟩
                      have g51 : a.eval (.tmp 51) = .bool false := (hJ.get 10 51 (hd 10 (by decide)) rfl).trans (hJ.val 10 (hd 10 (by decide)))
                      simp only [execOp, g51]; go_simp
                    · refine stepOK_val rfl fun L σ a w' hJ hd hI => ⟨_, ?_, rfl, hI⟩
                      have g55 : a.eval (.tmp 55) = .bool false := (hJ.get 14 55 (hd 14 (by decide)) rfl).trans (hJ.val 14 (hd 14 (by decide)))
                      simp only [execOp, g55]; go_simp
                    · exact stepOK_no (d := 56) rfl rfl (by decide) (fun v h => h) rfl (fun L σ w' hI => hI)
                    · exact stepOK_no (d := 56) rfl rfl (by decide) (fun v h => h) rfl (fun L σ w' hI => hI)
                    · exact stepOK_no (d := 56) rfl rfl (by decide) (fun v h => h) rfl (fun L σ w' hI => hI)
                    · refine stepOK_val rfl fun L σ a w' hJ hd hI => ⟨_, ?_, rfl, hI⟩
                      have g56 : a.eval (.tmp 56) = .bool false := (hJ.get 15 56 (hd 15 (by decide)) rfl).trans (hJ.val 15 (hd 15 (by decide)))
                      simp only [execOp, g56]; go_simp
                  case fin =>
                    intro σ w4 hv hI
                    have z60 : σ 19 = .bool false := hv 19 (by decide)
                    simp only [putsL, List.set_cons_succ, List.set_cons_zero, z60]
                    clear hv z60
                    go_wp2_with fail
                    go_meet
                    exact ⟨xs, hI.1.t, hI.1.r, hI.1.b⟩
                · have hk1 : ¬ k < 16 := hk1
                  have hb0 : ¬ getF zs k = wrap64 (getF xs k + 1) := by
                    unfold getF; rw [if_neg (by omega), if_neg (by omega)]; unfold wrap64; omega
                  refine wp_region_lits (by kernel_rfl) (by kernel_rfl) (by kernel_rfl) (by rfl)
                    (fun i v => match i with
                      | 0 => v = .pointer (some ⟨c, 0, none⟩) | 1 => v = .pointer (some ⟨S, 1, none⟩) | 2 => v = .int .i64 k | 3 => v = .int .i64 (getF zs k) | 4 => v = .agg (enc xs) | 5 => v = .pointer (some ⟨S, 1, none⟩) | 6 => v = .int .i64 k | 7 => v = .int .i64 (getF xs k) | 8 => v = .int .i64 (wrap64 (getF xs k + 1)) | 9 => v = .bool true | 10 => v = .bool true | 11 => v = .pointer (some ⟨S, 1, none⟩) | 12 => v = .int .i64 k | 13 => v = .bool true | 14 => v = .bool true | 15 => v = .bool true | 16 => v = .pointer (some ⟨S, 1, none⟩) | 17 => v = .int .i64 k | 18 => v = .bool false | 19 => v = .bool false | _ => True)
                    (fun L σ w' => St w B S xs xs k x y w' ∧ Tl w' c zs 31)
                    ?init ?steps ?fin
                  case init => exact ⟨hst3.below ((Below.refl _ _).drew), hT3.below ((Below.refl _ _).drew) hT3.blk.lt⟩
                  case steps =>
                    have eF8 := enters_of Try.func8 (by kernel_rfl) rfl
                    have eF12 := enters_of Try.func12 (by kernel_rfl) rfl
                    refine ⟨?_, ?_, ?_, ?_, ?_, ?_, ?_, ?_, ?_, ?_, ?_, ?_, ?_, ?_, ?_, ?_, ?_, ?_, ?_, ?_, trivial⟩
                    · refine stepOK_val rfl fun L σ a w' hJ hd hI => ⟨_, ?_, rfl, hI⟩
                      have o15 := hJ.old 15 (by kernel_rfl)
                      simp only [execOp, o15]; go_simp
                    · refine stepOK_val rfl fun L σ a w' hJ hd hI => ⟨_, ?_, rfl, hI⟩
                      have o8 := hJ.old 8 (by kernel_rfl)
                      simp only [execOp, o8]; go_simp
                    · refine stepOK_val rfl fun L σ a w' hJ hd hI => ⟨_, ?_, rfl, hI⟩
                      have g42 : a.eval (.tmp 42) = .pointer (some ⟨S, 1, none⟩) := (hJ.get 1 42 (hd 1 (by decide)) rfl).trans (hJ.val 1 (hd 1 (by decide)))
                      simp only [execOp, g42]; have c := hI.1.c1; go_simp
                    · refine stepOK_call rfl 12 #[.tmp 41, .tmp 43] #[44, 3] rfl eF12 fun L σ a w' hJ hd hI => ?_
                      have g41 : a.eval (.tmp 41) = .pointer (some ⟨c, 0, none⟩) := (hJ.get 0 41 (hd 0 (by decide)) rfl).trans (hJ.val 0 (hd 0 (by decide)))
                      have g43 : a.eval (.tmp 43) = .int .i64 k := (hJ.get 2 43 (hd 2 (by decide)) rfl).trans (hJ.val 2 (hd 2 (by decide)))
                      have e3 : (#[Operand.tmp 41, Operand.tmp 43]).map a.eval = #[.pointer (some ⟨c, 0, none⟩), .int .i64 k] := by simp [g41, g43]
                      rw [e3]
                      refine (get_tl c zs 31 k w' hI.2).mono ?_
                      rintro e w2 ⟨rfl, rfl⟩
                      exact ⟨_, rfl, rfl, hI⟩
                    · refine stepOK_val rfl fun L σ a w' hJ hd hI => ⟨_, ?_, rfl, hI⟩
                      have o6 := hJ.old 6 (by kernel_rfl)
                      exact run_exec_load_row 33 (.tmp 6) rfl (B + 1) o6 33 (enc xs) hI.1.r.blk (.array 16 2) (by kernel_rfl) rfl (size33 _ xl.out)
                    · refine stepOK_val rfl fun L σ a w' hJ hd hI => ⟨_, ?_, rfl, hI⟩
                      have o8 := hJ.old 8 (by kernel_rfl)
                      simp only [execOp, o8]; go_simp
                    · refine stepOK_val rfl fun L σ a w' hJ hd hI => ⟨_, ?_, rfl, hI⟩
                      have g46 : a.eval (.tmp 46) = .pointer (some ⟨S, 1, none⟩) := (hJ.get 5 46 (hd 5 (by decide)) rfl).trans (hJ.val 5 (hd 5 (by decide)))
                      simp only [execOp, g46]; have c := hI.1.c1; go_simp
                    · refine stepOK_call rfl 8 #[.tmp 45, .tmp 47] #[33, 3] rfl eF8 fun L σ a w' hJ hd hI => ?_
                      have g45 : a.eval (.tmp 45) = .agg (enc xs) := (hJ.get 4 45 (hd 4 (by decide)) rfl).trans (hJ.val 4 (hd 4 (by decide)))
                      have g47 : a.eval (.tmp 47) = .int .i64 k := (hJ.get 6 47 (hd 6 (by decide)) rfl).trans (hJ.val 6 (hd 6 (by decide)))
                      have e3 : (#[Operand.tmp 45, Operand.tmp 47]).map a.eval = #[.agg (enc xs), .int .i64 k] := by simp [g45, g47]
                      rw [e3]
                      refine (rget_tl xs k w' xl.out).mono ?_
                      rintro e w2 ⟨rfl, hb2⟩
                      exact ⟨_, rfl, rfl, hI.1.below hb2, hI.2.below hb2 hI.2.blk.lt⟩
                    · refine stepOK_val rfl fun L σ a w' hJ hd hI => ⟨_, ?_, rfl, hI⟩
                      have g48 : a.eval (.tmp 48) = .int .i64 (getF xs k) := (hJ.get 7 48 (hd 7 (by decide)) rfl).trans (hJ.val 7 (hd 7 (by decide)))
                      simp only [execOp, g48]; go_simp; simp [wrap64, IntKind.wrap_i64]
                    · refine stepOK_val rfl fun L σ a w' hJ hd hI => ⟨_, ?_, rfl, hI⟩
                      have g44 : a.eval (.tmp 44) = .int .i64 (getF zs k) := (hJ.get 3 44 (hd 3 (by decide)) rfl).trans (hJ.val 3 (hd 3 (by decide)))
                      have g49 : a.eval (.tmp 49) = .int .i64 (wrap64 (getF xs k + 1)) := (hJ.get 8 49 (hd 8 (by decide)) rfl).trans (hJ.val 8 (hd 8 (by decide)))
                      simp only [execOp, g44, g49]; have c := hb0; go_simp
                    · refine stepOK_val rfl fun L σ a w' hJ hd hI => ⟨_, ?_, rfl, hI⟩
                      have g50 : a.eval (.tmp 50) = .bool true := (hJ.get 9 50 (hd 9 (by decide)) rfl).trans (hJ.val 9 (hd 9 (by decide)))
                      simp only [execOp, g50]; go_simp
                    · refine stepOK_yesval (d := 51) rfl rfl (by decide) (fun v h => h) fun L σ a w' hJ hd hI => ⟨_, ?_, rfl, hI⟩
                      have o8 := hJ.old 8 (by kernel_rfl)
                      simp only [execOp, o8]; go_simp
                    · refine stepOK_yesval (d := 51) rfl rfl (by decide) (fun v h => h) fun L σ a w' hJ hd hI => ⟨_, ?_, rfl, hI⟩
                      have g52 : a.eval (.tmp 52) = .pointer (some ⟨S, 1, none⟩) := (hJ.get 11 52 (hd 11 (by decide)) rfl).trans (hJ.val 11 (hd 11 (by decide)))
                      simp only [execOp, g52]; have c := hI.1.c1; go_simp
                    · refine stepOK_yesval (d := 51) rfl rfl (by decide) (fun v h => h) fun L σ a w' hJ hd hI => ⟨_, ?_, rfl, hI⟩
                      have g53 : a.eval (.tmp 53) = .int .i64 k := (hJ.get 12 53 (hd 12 (by decide)) rfl).trans (hJ.val 12 (hd 12 (by decide)))
                      simp only [execOp, g53]; have c := hk0; go_simp
                    · refine stepOK_val rfl fun L σ a w' hJ hd hI => ⟨_, ?_, rfl, hI⟩
                      have g51 : a.eval (.tmp 51) = .bool true := (hJ.get 10 51 (hd 10 (by decide)) rfl).trans (hJ.val 10 (hd 10 (by decide)))
                      have g54 : a.eval (.tmp 54) = .bool true := (hJ.get 13 54 (hd 13 (by decide)) rfl).trans (hJ.val 13 (hd 13 (by decide)))
                      simp only [execOp, g51, g54]; go_simp
                    · refine stepOK_val rfl fun L σ a w' hJ hd hI => ⟨_, ?_, rfl, hI⟩
                      have g55 : a.eval (.tmp 55) = .bool true := (hJ.get 14 55 (hd 14 (by decide)) rfl).trans (hJ.val 14 (hd 14 (by decide)))
                      simp only [execOp, g55]; go_simp
                    · refine stepOK_yesval (d := 56) rfl rfl (by decide) (fun v h => h) fun L σ a w' hJ hd hI => ⟨_, ?_, rfl, hI⟩
                      have o8 := hJ.old 8 (by kernel_rfl)
                      simp only [execOp, o8]; go_simp
                    · refine stepOK_yesval (d := 56) rfl rfl (by decide) (fun v h => h) fun L σ a w' hJ hd hI => ⟨_, ?_, rfl, hI⟩
                      have g57 : a.eval (.tmp 57) = .pointer (some ⟨S, 1, none⟩) := (hJ.get 16 57 (hd 16 (by decide)) rfl).trans (hJ.val 16 (hd 16 (by decide)))
                      simp only [execOp, g57]; have c := hI.1.c1; go_simp
                    · refine stepOK_yesval (d := 56) rfl rfl (by decide) (fun v h => h) fun L σ a w' hJ hd hI => ⟨_, ?_, rfl, hI⟩
                      have g58 : a.eval (.tmp 58) = .int .i64 k := (hJ.get 17 58 (hd 17 (by decide)) rfl).trans (hJ.val 17 (hd 17 (by decide)))
                      simp only [execOp, g58]; have c := hk1; go_simp
                    · refine stepOK_val rfl fun L σ a w' hJ hd hI => ⟨_, ?_, rfl, hI⟩
                      have g56 : a.eval (.tmp 56) = .bool true := (hJ.get 15 56 (hd 15 (by decide)) rfl).trans (hJ.val 15 (hd 15 (by decide)))
                      have g59 : a.eval (.tmp 59) = .bool false := (hJ.get 18 59 (hd 18 (by decide)) rfl).trans (hJ.val 18 (hd 18 (by decide)))
                      simp only [execOp, g56, g59]; go_simp
                  case fin =>
                    intro σ w4 hv hI
                    have z60 : σ 19 = .bool false := hv 19 (by decide)
                    simp only [putsL, List.set_cons_succ, List.set_cons_zero, z60]
                    clear hv z60
                    go_wp2_with fail
                    go_meet
                    exact ⟨xs, hI.1.t, hI.1.r, hI.1.b⟩
              · have hb0 : ¬ getF zs k = wrap64 (getF xs k + 1) := by
                  unfold getF; rw [if_neg (by omega), if_neg (by omega)]; unfold wrap64; omega
                refine wp_region_lits (by kernel_rfl) (by kernel_rfl) (by kernel_rfl) (by rfl)
                  (fun i v => match i with
                    | 0 => v = .pointer (some ⟨c, 0, none⟩) | 1 => v = .pointer (some ⟨S, 1, none⟩) | 2 => v = .int .i64 k | 3 => v = .int .i64 (getF zs k) | 4 => v = .agg (enc xs) | 5 => v = .pointer (some ⟨S, 1, none⟩) | 6 => v = .int .i64 k | 7 => v = .int .i64 (getF xs k) | 8 => v = .int .i64 (wrap64 (getF xs k + 1)) | 9 => v = .bool true | 10 => v = .bool true | 11 => v = .pointer (some ⟨S, 1, none⟩) | 12 => v = .int .i64 k | 13 => v = .bool false | 14 => v = .bool false | 15 => v = .bool false | 16 => v = undef | 17 => v = undef | 18 => v = undef | 19 => v = .bool false | _ => True)
                  (fun L σ w' => St w B S xs xs k x y w' ∧ Tl w' c zs 31)
                  ?init ?steps ?fin
                case init => exact ⟨hst3.below ((Below.refl _ _).drew), hT3.below ((Below.refl _ _).drew) hT3.blk.lt⟩
                case steps =>
                  have eF8 := enters_of Try.func8 (by kernel_rfl) rfl
                  have eF12 := enters_of Try.func12 (by kernel_rfl) rfl
                  refine ⟨?_, ?_, ?_, ?_, ?_, ?_, ?_, ?_, ?_, ?_, ?_, ?_, ?_, ?_, ?_, ?_, ?_, ?_, ?_, ?_, trivial⟩
                  · refine stepOK_val rfl fun L σ a w' hJ hd hI => ⟨_, ?_, rfl, hI⟩
                    have o15 := hJ.old 15 (by kernel_rfl)
                    simp only [execOp, o15]; go_simp
                  · refine stepOK_val rfl fun L σ a w' hJ hd hI => ⟨_, ?_, rfl, hI⟩
                    have o8 := hJ.old 8 (by kernel_rfl)
                    simp only [execOp, o8]; go_simp
                  · refine stepOK_val rfl fun L σ a w' hJ hd hI => ⟨_, ?_, rfl, hI⟩
                    have g42 : a.eval (.tmp 42) = .pointer (some ⟨S, 1, none⟩) := (hJ.get 1 42 (hd 1 (by decide)) rfl).trans (hJ.val 1 (hd 1 (by decide)))
                    simp only [execOp, g42]; have c := hI.1.c1; go_simp
                  · refine stepOK_call rfl 12 #[.tmp 41, .tmp 43] #[44, 3] rfl eF12 fun L σ a w' hJ hd hI => ?_
                    have g41 : a.eval (.tmp 41) = .pointer (some ⟨c, 0, none⟩) := (hJ.get 0 41 (hd 0 (by decide)) rfl).trans (hJ.val 0 (hd 0 (by decide)))
                    have g43 : a.eval (.tmp 43) = .int .i64 k := (hJ.get 2 43 (hd 2 (by decide)) rfl).trans (hJ.val 2 (hd 2 (by decide)))
                    have e3 : (#[Operand.tmp 41, Operand.tmp 43]).map a.eval = #[.pointer (some ⟨c, 0, none⟩), .int .i64 k] := by simp [g41, g43]
                    rw [e3]
                    refine (get_tl c zs 31 k w' hI.2).mono ?_
                    rintro e w2 ⟨rfl, rfl⟩
                    exact ⟨_, rfl, rfl, hI⟩
                  · refine stepOK_val rfl fun L σ a w' hJ hd hI => ⟨_, ?_, rfl, hI⟩
                    have o6 := hJ.old 6 (by kernel_rfl)
                    exact run_exec_load_row 33 (.tmp 6) rfl (B + 1) o6 33 (enc xs) hI.1.r.blk (.array 16 2) (by kernel_rfl) rfl (size33 _ xl.out)
                  · refine stepOK_val rfl fun L σ a w' hJ hd hI => ⟨_, ?_, rfl, hI⟩
                    have o8 := hJ.old 8 (by kernel_rfl)
                    simp only [execOp, o8]; go_simp
                  · refine stepOK_val rfl fun L σ a w' hJ hd hI => ⟨_, ?_, rfl, hI⟩
                    have g46 : a.eval (.tmp 46) = .pointer (some ⟨S, 1, none⟩) := (hJ.get 5 46 (hd 5 (by decide)) rfl).trans (hJ.val 5 (hd 5 (by decide)))
                    simp only [execOp, g46]; have c := hI.1.c1; go_simp
                  · refine stepOK_call rfl 8 #[.tmp 45, .tmp 47] #[33, 3] rfl eF8 fun L σ a w' hJ hd hI => ?_
                    have g45 : a.eval (.tmp 45) = .agg (enc xs) := (hJ.get 4 45 (hd 4 (by decide)) rfl).trans (hJ.val 4 (hd 4 (by decide)))
                    have g47 : a.eval (.tmp 47) = .int .i64 k := (hJ.get 6 47 (hd 6 (by decide)) rfl).trans (hJ.val 6 (hd 6 (by decide)))
                    have e3 : (#[Operand.tmp 45, Operand.tmp 47]).map a.eval = #[.agg (enc xs), .int .i64 k] := by simp [g45, g47]
                    rw [e3]
                    refine (rget_tl xs k w' xl.out).mono ?_
                    rintro e w2 ⟨rfl, hb2⟩
                    exact ⟨_, rfl, rfl, hI.1.below hb2, hI.2.below hb2 hI.2.blk.lt⟩
                  · refine stepOK_val rfl fun L σ a w' hJ hd hI => ⟨_, ?_, rfl, hI⟩
                    have g48 : a.eval (.tmp 48) = .int .i64 (getF xs k) := (hJ.get 7 48 (hd 7 (by decide)) rfl).trans (hJ.val 7 (hd 7 (by decide)))
                    simp only [execOp, g48]; go_simp; simp [wrap64, IntKind.wrap_i64]
                  · refine stepOK_val rfl fun L σ a w' hJ hd hI => ⟨_, ?_, rfl, hI⟩
                    have g44 : a.eval (.tmp 44) = .int .i64 (getF zs k) := (hJ.get 3 44 (hd 3 (by decide)) rfl).trans (hJ.val 3 (hd 3 (by decide)))
                    have g49 : a.eval (.tmp 49) = .int .i64 (wrap64 (getF xs k + 1)) := (hJ.get 8 49 (hd 8 (by decide)) rfl).trans (hJ.val 8 (hd 8 (by decide)))
                    simp only [execOp, g44, g49]; have c := hb0; go_simp
                  · refine stepOK_val rfl fun L σ a w' hJ hd hI => ⟨_, ?_, rfl, hI⟩
                    have g50 : a.eval (.tmp 50) = .bool true := (hJ.get 9 50 (hd 9 (by decide)) rfl).trans (hJ.val 9 (hd 9 (by decide)))
                    simp only [execOp, g50]; go_simp
                  · refine stepOK_yesval (d := 51) rfl rfl (by decide) (fun v h => h) fun L σ a w' hJ hd hI => ⟨_, ?_, rfl, hI⟩
                    have o8 := hJ.old 8 (by kernel_rfl)
                    simp only [execOp, o8]; go_simp
                  · refine stepOK_yesval (d := 51) rfl rfl (by decide) (fun v h => h) fun L σ a w' hJ hd hI => ⟨_, ?_, rfl, hI⟩
                    have g52 : a.eval (.tmp 52) = .pointer (some ⟨S, 1, none⟩) := (hJ.get 11 52 (hd 11 (by decide)) rfl).trans (hJ.val 11 (hd 11 (by decide)))
                    simp only [execOp, g52]; have c := hI.1.c1; go_simp
                  · refine stepOK_yesval (d := 51) rfl rfl (by decide) (fun v h => h) fun L σ a w' hJ hd hI => ⟨_, ?_, rfl, hI⟩
                    have g53 : a.eval (.tmp 53) = .int .i64 k := (hJ.get 12 53 (hd 12 (by decide)) rfl).trans (hJ.val 12 (hd 12 (by decide)))
                    simp only [execOp, g53]; have c := hk0; go_simp
                  · refine stepOK_val rfl fun L σ a w' hJ hd hI => ⟨_, ?_, rfl, hI⟩
                    have g51 : a.eval (.tmp 51) = .bool true := (hJ.get 10 51 (hd 10 (by decide)) rfl).trans (hJ.val 10 (hd 10 (by decide)))
                    have g54 : a.eval (.tmp 54) = .bool false := (hJ.get 13 54 (hd 13 (by decide)) rfl).trans (hJ.val 13 (hd 13 (by decide)))
                    simp only [execOp, g51, g54]; go_simp
                  · refine stepOK_val rfl fun L σ a w' hJ hd hI => ⟨_, ?_, rfl, hI⟩
                    have g55 : a.eval (.tmp 55) = .bool false := (hJ.get 14 55 (hd 14 (by decide)) rfl).trans (hJ.val 14 (hd 14 (by decide)))
                    simp only [execOp, g55]; go_simp
                  · exact stepOK_no (d := 56) rfl rfl (by decide) (fun v h => h) rfl (fun L σ w' hI => hI)
                  · exact stepOK_no (d := 56) rfl rfl (by decide) (fun v h => h) rfl (fun L σ w' hI => hI)
                  · exact stepOK_no (d := 56) rfl rfl (by decide) (fun v h => h) rfl (fun L σ w' hI => hI)
                  · refine stepOK_val rfl fun L σ a w' hJ hd hI => ⟨_, ?_, rfl, hI⟩
                    have g56 : a.eval (.tmp 56) = .bool false := (hJ.get 15 56 (hd 15 (by decide)) rfl).trans (hJ.val 15 (hd 15 (by decide)))
                    simp only [execOp, g56]; go_simp
                case fin =>
                  intro σ w4 hv hI
                  have z60 : σ 19 = .bool false := hv 19 (by decide)
                  simp only [putsL, List.set_cons_succ, List.set_cons_zero, z60]
                  clear hv z60
                  go_wp2_with fail
                  go_meet
                  exact ⟨xs, hI.1.t, hI.1.r, hI.1.b⟩
      case rest =>
        obtain ⟨zs, hT, hW, hBel⟩ := hcut
        have zl := Lib.hid hT.len
        go_wp2_with (first
          | (refine wpList_load_row rfl 33 (.tmp 6) rfl (B + 1) rfl 33 (enc zs) (0, 0) (.array 16 2) hW.blk (by kernel_rfl) rfl (size33 _ zl.out) ?_))
        go_loop [16, 135] (fun t c => ∃ j : Nat, j ≤ 16 ∧ c = .int .i64 j ∧ t = .int .i64 (sumTo zs j)) (fun _ c => 16 - (intOf c).toNat)
        case atStart => exact ⟨0, by omega, rfl, rfl⟩
        case round =>
          obtain ⟨j, hj, rfl, rfl⟩ := hrel
          by_cases hlj : j < 16
          · obtain ⟨q, hq⟩ : ∃ q, zs.getD j 0 = q := ⟨_, rfl⟩
            have hst := sumTo_step zs j (by rw [zl.out]; exact hlj)
            rw [hq] at hst
            have Hst := Lib.hid hst
            have hix := fun W => run_index (P := Try.prog) (T := 33) (by kernel_rfl) (by kernel_rfl) (by kernel_rfl) zs j q zl.out hlj hq W
            clear hst hq
            go_wp2
            go_round
            case rel => exact ⟨j + 1, by omega, by go_num, by rw [Hst.out]⟩
            case measure => simp [intOf]; omega
          · have hj16 : j = 16 := by omega
            subst hj16
            go_upto_region 34 with fail
            refine wp_region_lits (by kernel_rfl) (by kernel_rfl) (by kernel_rfl) (by rfl)
              (fun i v => match i with
                | 0 => v = .agg (enc zs) | 1 => v = .agg (enc zs) | 2 => v = .bool false | 3 => v = .bool false | 4 => v = .int .i64 (sumTo zs 16) | 5 => v = .int .i64 (sumTo zs 16) | 6 => v = .bool false | 7 => v = .bool false | 8 => v = .bool false | 9 => v = .int .i64 at_ | 10 => v = .int .i64 (getF zs at_) | 11 => v = .agg (enc zs) | 12 => v = .int .i64 at_ | 13 => v = .int .i64 (getF zs at_) | 14 => v = .bool false | 15 => v = .bool false | _ => True)
              (fun L σ w' => Tl w' B zs 31 ∧ Tl w' (B + 1) zs 33 ∧ Below w.heap.size w w')
              ?init ?steps ?fin
            case init => exact ⟨hT.below ((Below.refl _ _).drew) hT.blk.lt, hW.below ((Below.refl _ _).drew) hW.blk.lt, hBel.drew⟩
            case steps =>
              have eF8 := enters_of Try.func8 (by kernel_rfl) rfl
              have eF12 := enters_of Try.func12 (by kernel_rfl) rfl
              have eF13 := enters_of Try.func13 (by kernel_rfl) rfl
              have eF14 := enters_of Try.func14 (by kernel_rfl) rfl
              have keep : ∀ W W' : World, (Tl W B zs 31 ∧ Tl W (B + 1) zs 33 ∧ Below w.heap.size w W) → Below W.heap.size W W' → (Tl W' B zs 31 ∧ Tl W' (B + 1) zs 33 ∧ Below w.heap.size w W') := fun W W' h hb => ⟨h.1.below hb h.1.blk.lt, h.2.1.below hb h.2.1.blk.lt, h.2.2.trans (hb.mono h.2.2.size)⟩
              refine ⟨?_, ?_, ?_, ?_, ?_, ?_, ?_, ?_, ?_, ?_, ?_, ?_, ?_, ?_, ?_, ?_, trivial⟩
              · refine stepOK_op rfl fun L σ a w' hJ _ hd hI => ?_
                have o5 := hJ.old 5 (by kernel_rfl)
                have p5 : a.eval (.tmp 5) = .pointer (some ⟨B, 0, none⟩) := o5
                have e3 : (#[Operand.tmp 5] : Array Operand).map a.eval = #[.pointer (some ⟨B, 0, none⟩)] := by simp [p5]
                refine oper_call (v := fun u w2 => u = .agg (enc zs) ∧ Below w'.heap.size w' w2) rfl eF13 ?_ (fun u w2 h => ⟨u, rfl, h.1, keep _ _ hI h.2⟩)
                rw [e3]
                refine (all_any B zs 31 w' hI.1).mono ?_
                rintro e w2 ⟨rfl, hb⟩
                exact ⟨_, rfl, rfl, hb⟩
              · refine stepOK_val rfl fun L σ a w' hJ hd hI => ⟨_, ?_, rfl, hI⟩
                have o6 := hJ.old 6 (by kernel_rfl)
                exact run_exec_load_row 33 (.tmp 6) rfl (B + 1) o6 33 (enc zs) hI.2.1.blk (.array 16 2) (by kernel_rfl) rfl (size33 _ zl.out)
              · refine stepOK_val rfl fun L σ a w' hJ hd hI => ⟨_, ?_, rfl, hI⟩
                have g142 : a.eval (.tmp 142) = .agg (enc zs) := (hJ.get 0 142 (hd 0 (by decide)) rfl).trans (hJ.val 0 (hd 0 (by decide)))
                have g143 : a.eval (.tmp 143) = .agg (enc zs) := (hJ.get 1 143 (hd 1 (by decide)) rfl).trans (hJ.val 1 (hd 1 (by decide)))
                exact run_neq_row (.tmp 142) (.tmp 143) rfl zs zl.out g142 g143 w'
              · refine stepOK_val rfl fun L σ a w' hJ hd hI => ⟨_, ?_, rfl, hI⟩
                have g144 : a.eval (.tmp 144) = .bool false := (hJ.get 2 144 (hd 2 (by decide)) rfl).trans (hJ.val 2 (hd 2 (by decide)))
                simp only [execOp, g144]; go_simp
              · refine stepOK_yes (d := 145) rfl rfl (by decide) (fun v h => h) fun L σ a w' hJ hd hI => ?_
                have o5 := hJ.old 5 (by kernel_rfl)
                have p5 : a.eval (.tmp 5) = .pointer (some ⟨B, 0, none⟩) := o5
                have e3 : (#[Operand.tmp 5] : Array Operand).map a.eval = #[.pointer (some ⟨B, 0, none⟩)] := by simp [p5]
                refine oper_call (v := fun u w2 => u = .int .i64 (sumTo zs 16) ∧ Below w'.heap.size w' w2) rfl eF14 ?_ (fun u w2 h => ⟨u, rfl, h.1, keep _ _ hI h.2⟩)
                rw [e3]
                refine (sum_any B zs 31 w' hI.1).mono ?_
                rintro e w2 ⟨rfl, hb⟩
                exact ⟨_, rfl, rfl, hb⟩
              · refine stepOK_yesval (d := 145) rfl rfl (by decide) (fun v h => h) fun L σ a w' hJ hd hI => ⟨_, ?_, rfl, hI⟩
                have o16 := hJ.old 16 (by kernel_rfl)
                simp only [execOp, o16]; go_simp
              · refine stepOK_yesval (d := 145) rfl rfl (by decide) (fun v h => h) fun L σ a w' hJ hd hI => ⟨_, ?_, rfl, hI⟩
                have g146 : a.eval (.tmp 146) = .int .i64 (sumTo zs 16) := (hJ.get 4 146 (hd 4 (by decide)) rfl).trans (hJ.val 4 (hd 4 (by decide)))
                have g147 : a.eval (.tmp 147) = .int .i64 (sumTo zs 16) := (hJ.get 5 147 (hd 5 (by decide)) rfl).trans (hJ.val 5 (hd 5 (by decide)))
                simp only [execOp, g146, g147]; go_simp
              · refine stepOK_val rfl fun L σ a w' hJ hd hI => ⟨_, ?_, rfl, hI⟩
                have g145 : a.eval (.tmp 145) = .bool false := (hJ.get 3 145 (hd 3 (by decide)) rfl).trans (hJ.val 3 (hd 3 (by decide)))
                have g148 : a.eval (.tmp 148) = .bool false := (hJ.get 6 148 (hd 6 (by decide)) rfl).trans (hJ.val 6 (hd 6 (by decide)))
                simp only [execOp, g145, g148]; go_simp
              · refine stepOK_val rfl fun L σ a w' hJ hd hI => ⟨_, ?_, rfl, hI⟩
                have g149 : a.eval (.tmp 149) = .bool false := (hJ.get 7 149 (hd 7 (by decide)) rfl).trans (hJ.val 7 (hd 7 (by decide)))
                simp only [execOp, g149]; go_simp
              · refine stepOK_yesval (d := 150) rfl rfl (by decide) (fun v h => h) fun L σ a w' hJ hd hI => ⟨_, ?_, rfl, hI⟩
                have o1 := hJ.old 1 (by kernel_rfl)
                simp only [execOp, o1]; go_simp
              · refine stepOK_yes (d := 150) rfl rfl (by decide) (fun v h => h) fun L σ a w' hJ hd hI => ?_
                have o5 := hJ.old 5 (by kernel_rfl)
                have p5 : a.eval (.tmp 5) = .pointer (some ⟨B, 0, none⟩) := o5
                have g151 : a.eval (.tmp 151) = .int .i64 at_ := (hJ.get 9 151 (hd 9 (by decide)) rfl).trans (hJ.val 9 (hd 9 (by decide)))
                have e3 : (#[Operand.tmp 5, Operand.tmp 151] : Array Operand).map a.eval = #[.pointer (some ⟨B, 0, none⟩), .int .i64 at_] := by simp [p5, g151]
                refine oper_call (v := fun u w2 => u = .int .i64 (getF zs at_) ∧ Below w'.heap.size w' w2) rfl eF12 ?_ (fun u w2 h => ⟨u, rfl, h.1, keep _ _ hI h.2⟩)
                rw [e3]
                refine (get_tl B zs 31 at_ w' hI.1).mono ?_
                rintro e w2 ⟨rfl, rfl⟩
                exact ⟨_, rfl, rfl, Below.refl _ _⟩
              · refine stepOK_yesval (d := 150) rfl rfl (by decide) (fun v h => h) fun L σ a w' hJ hd hI => ⟨_, ?_, rfl, hI⟩
                have o6 := hJ.old 6 (by kernel_rfl)
                exact run_exec_load_row 33 (.tmp 6) rfl (B + 1) o6 33 (enc zs) hI.2.1.blk (.array 16 2) (by kernel_rfl) rfl (size33 _ zl.out)
              · refine stepOK_yesval (d := 150) rfl rfl (by decide) (fun v h => h) fun L σ a w' hJ hd hI => ⟨_, ?_, rfl, hI⟩
                have o1 := hJ.old 1 (by kernel_rfl)
                simp only [execOp, o1]; go_simp
              · refine stepOK_yes (d := 150) rfl rfl (by decide) (fun v h => h) fun L σ a w' hJ hd hI => ?_
                have g153 : a.eval (.tmp 153) = .agg (enc zs) := (hJ.get 11 153 (hd 11 (by decide)) rfl).trans (hJ.val 11 (hd 11 (by decide)))
                have g154 : a.eval (.tmp 154) = .int .i64 at_ := (hJ.get 12 154 (hd 12 (by decide)) rfl).trans (hJ.val 12 (hd 12 (by decide)))
                have e3 : (#[Operand.tmp 153, Operand.tmp 154] : Array Operand).map a.eval = #[.agg (enc zs), .int .i64 at_] := by simp [g153, g154]
                refine oper_call (v := fun u w2 => u = .int .i64 (getF zs at_) ∧ Below w'.heap.size w' w2) rfl eF8 ?_ (fun u w2 h => ⟨u, rfl, h.1, keep _ _ hI h.2⟩)
                rw [e3]
                refine (rget_tl zs at_ w' zl.out).mono ?_
                rintro e w2 ⟨rfl, hb⟩
                exact ⟨_, rfl, rfl, hb⟩
              · refine stepOK_yesval (d := 150) rfl rfl (by decide) (fun v h => h) fun L σ a w' hJ hd hI => ⟨_, ?_, rfl, hI⟩
                have g152 : a.eval (.tmp 152) = .int .i64 (getF zs at_) := (hJ.get 10 152 (hd 10 (by decide)) rfl).trans (hJ.val 10 (hd 10 (by decide)))
                have g155 : a.eval (.tmp 155) = .int .i64 (getF zs at_) := (hJ.get 13 155 (hd 13 (by decide)) rfl).trans (hJ.val 13 (hd 13 (by decide)))
                simp only [execOp, g152, g155]; go_simp
              · refine stepOK_val rfl fun L σ a w' hJ hd hI => ⟨_, ?_, rfl, hI⟩
                have g150 : a.eval (.tmp 150) = .bool false := (hJ.get 8 150 (hd 8 (by decide)) rfl).trans (hJ.val 8 (hd 8 (by decide)))
                have g156 : a.eval (.tmp 156) = .bool false := (hJ.get 14 156 (hd 14 (by decide)) rfl).trans (hJ.val 14 (hd 14 (by decide)))
                simp only [execOp, g150, g156]; go_simp
            case fin =>
              intro σ w4 hv hI
              have z57 : σ 15 = .bool false := hv 15 (by decide)
              simp only [putsL, List.set_cons_succ, List.set_cons_zero, z57]
              clear hv z57
              go_wp2_with fail
              go_roundg (len - (i + 1))
              case measure => omega
              case rel => exact ⟨i + 1, zs, by omega, rfl, by go_num, hI.1, hI.2.1, hI.2.2⟩
    · go_wp2_with fail
      go_ret
      exact ⟨rfl, hBel⟩
end Go.Proofs.Ytcaekploljpmeaa
