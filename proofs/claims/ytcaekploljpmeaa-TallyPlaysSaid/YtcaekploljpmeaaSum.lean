import Derived.Test.YtcaekploljpmeaaRef
namespace Go.Proofs.Ytcaekploljpmeaa
open Go.RowKit

/-- The sum, going round. -/
def sumTo (xs : List Int) (k : Nat) : Int := (xs.take k).foldl (fun s x => wrap64 (s + x)) 0
theorem sumTo_step (xs : List Int) (k : Nat) (h : k < xs.length) : sumTo xs (k + 1) = wrap64 (sumTo xs k + xs.getD k 0) := by
  unfold sumTo
  rw [List.take_succ_eq_append_getElem h, List.foldl_append, List.getD_eq_getElem?_getD, List.getElem?_eq_getElem h]
  rfl

theorem run_index {P : Program} {T : TypeId} (hT : P.underlying T = some (.array 16 2)) (h2 : (P.info? 2).map (·.size) = some 1) (hu2 : P.underlying 2 = some (.int .i64)) (xs : List Int) (k : Nat) (x : Int) (hl : xs.length = 16) (h : k < 16) (hx : xs.getD k 0 = x) (w : World) :
    (Instr.index T (.agg (enc xs)) (.int .i64 k)).run P w = .ok (.int .i64 x) w := by
  obtain ⟨i, hi, hs⟩ := Option.map_eq_some_iff.1 h2
  have hg := enc_get xs k (by omega)
  rw [hx] at hg
  simp [Instr.index, Sem.run_bind, run_underlying hT, run_underlying hu2, sizeOf, typeInfo, hi, hs, Go.part, isAgg, asIntOf, hg]
  omega

set_option maxHeartbeats 400000 in
theorem sum_any (b : Nat) (xs : List Int) (t : TypeId) (w : World) (h : Tl w b xs t) :
    Calls Try.prog 14 #[.pointer (some ⟨b, 0, none⟩)] w fun e w' => e = .returned (.int .i64 (sumTo xs 16)) ∧ Below w.heap.size w w' := by
  have hlen := Lib.hid h.len
  go_enter Try.func14, Try.ntmps14
  go_wp2_with (first | (go_at_call 13; refine (all_any _ _ _ _ h).mono ?_; rintro e w1 ⟨rfl, hb1⟩))
  go_loop [3, 8] (fun s i => ∃ k : Nat, k ≤ 16 ∧ i = .int .i64 k ∧ s = .int .i64 (sumTo xs k)) (fun _ i => 16 - (intOf i).toNat)
  case atStart => exact ⟨0, by omega, rfl, rfl⟩
  case round =>
    obtain ⟨k, hk, rfl, rfl⟩ := hrel
    by_cases hlt : k < 16
    · obtain ⟨x, hx⟩ : ∃ x, xs.getD k 0 = x := ⟨_, rfl⟩
      have hst := sumTo_step xs k (by rw [hlen.out]; exact hlt)
      rw [hx] at hst
      have Hst := Lib.hid hst
      have hix := fun W => run_index (P := Try.prog) (T := 32) (by kernel_rfl) (by kernel_rfl) (by kernel_rfl) xs k x hlen.out hlt hx W
      clear hst hx
      go_wp2
      go_round
      case rel => exact ⟨k + 1, by omega, by go_num, by rw [Hst.out]⟩
      case measure => simp [intOf]; omega
    · have hk16 : k = 16 := by omega
      subst hk16
      go_wp2
      go_ret
      exact ⟨rfl, hb1⟩

set_option maxHeartbeats 400000 in
theorem copy_any (b : Nat) (xs : List Int) (t : TypeId) (w : World) (h : Tl w b xs t) :
    Calls Try.prog 11 #[.pointer (some ⟨b, 0, none⟩)] w fun e w' => ∃ c, e = .returned (.pointer (some ⟨c, 0, none⟩)) ∧ w.heap.size ≤ c ∧ Tl w' c xs 31 ∧ Below w.heap.size w w' := by
  have hlen := Lib.hid h.len
  have hb := h.blk.lt
  go_enter Try.func11, Try.ntmps11
  go_wp2_with (first
    | (go_at_call 15; refine (new_any _).mono ?_; rintro e w1 ⟨rfl, rfl⟩)
    | (go_at_call 13; refine (all_any b xs t _ ⟨h.blk.alloc _, h.len⟩).mono ?_; rintro e w1 ⟨rfl, hb1⟩))
  go_loopw [9] (fun i wr => ∃ k : Nat, k ≤ 16 ∧ i = .int .i64 k ∧ Tl wr w.heap.size (part xs k) 31 ∧ Below w.heap.size w wr) (fun i _ => 16 - (intOf i).toNat)
  case atStart =>
    refine ⟨0, by omega, rfl, ⟨?_, part_len _ _ h.len (by omega)⟩, ((Below.refl _ w).alloc (Nat.le_refl _) (.cells (enc (List.replicate 16 0)) 31)).trans (hb1.mono (by simp))⟩
    rw [part_zero]
    exact (Blk.new w _ _).below hb1 (by simp)
  case round =>
    obtain ⟨k, hk, rfl, hT, hBel⟩ := hrel
    by_cases hlt : k < 16
    · obtain ⟨x, hx⟩ : ∃ x, xs.getD k 0 = x := ⟨_, rfl⟩
      have hix := fun W => run_index (P := Try.prog) (T := 32) (by kernel_rfl) (by kernel_rfl) (by kernel_rfl) xs k x hlen.out hlt hx W
      have hc := hT.cell k hlt
      have hz := hT.blk.free k
      have Hx := Lib.hid hx
      clear hx
      go_wp2_with (first | (go_at_call 20; refine (astore _ _ _ _ hc hz).mono ?_; rintro e w2 ⟨rfl, rfl⟩))
      go_roundw
      case rel =>
        refine ⟨k + 1, by omega, by go_num, ?_, hBel.setCell (by simp) _⟩
        rw [← part_step xs k hlen.out hlt, Hx.out]
        exact hT.set k _
      case measure => simp [intOf]; omega
    · have hk16 : k = 16 := by omega
      subst hk16
      rw [part_all xs hlen.out] at hT
      go_wp2
      go_ret
      exact ⟨_, rfl, Nat.le_refl _, hT, hBel⟩

/-- Only block b may have turned. -/
structure Only (b : Nat) (w w' : World) : Prop where
  os : w'.os = w.os
  tape : w'.tape = w.tape
  output : w'.output = w.output
  size : w'.heap.size = w.heap.size
  block : ∀ i, i ≠ b → w'.heap[i]? = w.heap[i]?
theorem Only.refl (b : Nat) (w : World) : Only b w w := ⟨rfl, rfl, rfl, rfl, fun _ _ => rfl⟩
theorem Only.setCell (b k : Nat) (v : Value) (w : World) : Only b w (w.setCell ⟨b, k, none⟩ v) :=
  ⟨rfl, rfl, rfl, by simp, fun i hi => heap_set_ne v (by simp; omega)⟩
theorem below_only {B b : Nat} {a w w' : World} (h : Below B a w) (ho : Only b w w') (hb : B ≤ b) : Below B a w' :=
  ⟨ho.os.trans h.os, ho.tape.trans h.tape, ho.output.trans h.output, by rw [ho.size]; exact h.size, fun i hi => by rw [ho.block i (by omega)]; exact h.block i hi⟩
theorem Tl.only {w w' : World} {b c : Nat} {xs : List Int} {t : TypeId} (h : Tl w b xs t) (ho : Only c w w') (hn : b ≠ c) : Tl w' b xs t :=
  ⟨by have := h.blk; unfold Blk at this ⊢; rw [ho.block b hn]; exact this, h.len⟩

/-- A count is there. -/
def Is (k : Int) : Prop := 0 ≤ k ∧ k < 16
/-- What the document says of each deed: the counts behind it, and the answer. -/
def addF (xs : List Int) (k d : Int) : List Int × Int := if 0 ≤ k ∧ k < 16 then (xs.set k.toNat (wrap64 (xs.getD k.toNat 0 + d)), wrap64 (xs.getD k.toNat 0 + d)) else (xs, 0)
def getF (xs : List Int) (k : Int) : Int := if 0 ≤ k ∧ k < 16 then xs.getD k.toNat 0 else 0
def setF (xs : List Int) (k y : Int) (may : Bool) : List Int × Bool := if 0 ≤ k ∧ k < 16 ∧ may = true then (xs.set k.toNat y, true) else (xs, false)
theorem addF_len (xs : List Int) (k d : Int) : (addF xs k d).1.length = xs.length := by unfold addF; split <;> simp
theorem setF_len (xs : List Int) (k y : Int) (may : Bool) : (setF xs k y may).1.length = xs.length := by unfold setF; split <;> simp

theorem add_tl (b : Nat) (xs : List Int) (t : TypeId) (k d : Int) (w : World) (h : Tl w b xs t) :
    Calls Try.prog 6 #[.pointer (some ⟨b, 0, none⟩), .int .i64 k, .int .i64 d] w fun e w' => e = .returned (.int .i64 (addF xs k d).2) ∧ Tl w' b (addF xs k d).1 t ∧ Only b w w' := by
  unfold addF
  by_cases hk : 0 ≤ k ∧ k < 16
  · rw [if_pos hk]
    obtain ⟨n, rfl⟩ := Int.eq_ofNat_of_zero_le hk.1
    have hn : n < 16 := by omega
    refine (add_in b n _ d w hn (h.cell n hn) (h.blk.free n)).mono ?_
    rintro e w' ⟨rfl, rfl⟩
    exact ⟨rfl, h.set n _, Only.setCell _ _ _ _⟩
  · rw [if_neg hk]
    refine (add_out b k d w (by omega)).mono ?_
    rintro e w' ⟨rfl, rfl⟩
    exact ⟨rfl, h, Only.refl _ _⟩
theorem get_tl (b : Nat) (xs : List Int) (t : TypeId) (k : Int) (w : World) (h : Tl w b xs t) :
    Calls Try.prog 12 #[.pointer (some ⟨b, 0, none⟩), .int .i64 k] w fun e w' => e = .returned (.int .i64 (getF xs k)) ∧ w = w' := by
  unfold getF
  by_cases hk : 0 ≤ k ∧ k < 16
  · rw [if_pos hk]
    obtain ⟨n, rfl⟩ := Int.eq_ofNat_of_zero_le hk.1
    have hn : n < 16 := by omega
    refine (get_in b n _ w hn (h.cell n hn)).mono ?_
    rintro e w' ⟨rfl, rfl⟩
    exact ⟨rfl, rfl⟩
  · rw [if_neg hk]
    refine (get_out b k w (by omega)).mono ?_
    rintro e w' ⟨rfl, rfl⟩
    exact ⟨rfl, rfl⟩
theorem raise_tl (b : Nat) (xs : List Int) (t : TypeId) (k y : Int) (w : World) (h : Tl w b xs t) :
    Calls Try.prog 9 #[.pointer (some ⟨b, 0, none⟩), .int .i64 k, .int .i64 y] w fun e w' => e = .returned (.bool (setF xs k y (decide (getF xs k < y))).2) ∧ Tl w' b (setF xs k y (decide (getF xs k < y))).1 t ∧ Only b w w' := by
  unfold setF getF
  by_cases hk : 0 ≤ k ∧ k < 16
  · rw [if_pos hk]
    obtain ⟨n, rfl⟩ := Int.eq_ofNat_of_zero_le hk.1
    have hn : n < 16 := by omega
    rw [Int.toNat_natCast]
    by_cases hy : xs.getD n 0 < y
    · rw [if_pos ⟨hk.1, hk.2, by simpa using hy⟩]
      refine (raise_yes b n _ y w hn (h.cell n hn) (h.blk.free n) hy).mono ?_
      rintro e w' ⟨rfl, rfl⟩
      exact ⟨rfl, h.set n _, Only.setCell _ _ _ _⟩
    · rw [if_neg (by simp only [decide_eq_true_eq]; exact fun hh => hy hh.2.2)]
      refine (raise_no b n _ y w hn (h.cell n hn) (by omega)).mono ?_
      rintro e w' ⟨rfl, rfl⟩
      exact ⟨rfl, h, Only.refl _ _⟩
  · rw [if_neg hk, if_neg (fun hh => hk ⟨hh.1, hh.2.1⟩)]
    refine (raise_out b k y w (by omega)).mono ?_
    rintro e w' ⟨rfl, rfl⟩
    exact ⟨rfl, h, Only.refl _ _⟩
theorem swap_tl (b : Nat) (xs : List Int) (t : TypeId) (k x y : Int) (w : World) (h : Tl w b xs t) :
    Calls Try.prog 10 #[.pointer (some ⟨b, 0, none⟩), .int .i64 k, .int .i64 x, .int .i64 y] w fun e w' => e = .returned (.bool (setF xs k y (getF xs k == x)).2) ∧ Tl w' b (setF xs k y (getF xs k == x)).1 t ∧ Only b w w' := by
  unfold setF getF
  by_cases hk : 0 ≤ k ∧ k < 16
  · rw [if_pos hk]
    obtain ⟨n, rfl⟩ := Int.eq_ofNat_of_zero_le hk.1
    have hn : n < 16 := by omega
    rw [Int.toNat_natCast]
    by_cases hy : xs.getD n 0 = x
    · subst hy
      rw [if_pos ⟨hk.1, hk.2, by simp⟩]
      refine (swap_hit b n _ y w hn (h.cell n hn) (h.blk.free n)).mono ?_
      rintro e w' ⟨rfl, rfl⟩
      exact ⟨rfl, h.set n _, Only.setCell _ _ _ _⟩
    · rw [if_neg (by simp only [beq_iff_eq]; exact fun hh => hy hh.2.2)]
      refine (swap_miss b n _ x y w hn (h.cell n hn) (h.blk.free n) hy).mono ?_
      rintro e w' ⟨rfl, rfl⟩
      exact ⟨rfl, h, Only.refl _ _⟩
  · rw [if_neg hk, if_neg (fun hh => hk ⟨hh.1, hh.2.1⟩)]
    refine (swap_out b k x y w (by omega)).mono ?_
    rintro e w' ⟨rfl, rfl⟩
    exact ⟨rfl, h, Only.refl _ _⟩
theorem radd_tl (xs : List Int) (k d : Int) (w : World) (hl : xs.length = 16) :
    Calls Try.prog 5 #[.agg (enc xs), .int .i64 k, .int .i64 d] w fun e w' => e = .returned (.tuple #[.agg (enc (addF xs k d).1), .int .i64 (addF xs k d).2]) ∧ Below w.heap.size w w' := by
  unfold addF
  by_cases hk : 0 ≤ k ∧ k < 16
  · rw [if_pos hk]
    obtain ⟨n, rfl⟩ := Int.eq_ofNat_of_zero_le hk.1
    rw [Int.toNat_natCast]
    exact radd_in xs n _ d w hl (by omega) rfl
  · rw [if_neg hk]
    exact radd_out xs k d w hl (by omega)
theorem rget_tl (xs : List Int) (k : Int) (w : World) (hl : xs.length = 16) :
    Calls Try.prog 8 #[.agg (enc xs), .int .i64 k] w fun e w' => e = .returned (.int .i64 (getF xs k)) ∧ Below w.heap.size w w' := by
  unfold getF
  by_cases hk : 0 ≤ k ∧ k < 16
  · rw [if_pos hk]
    obtain ⟨n, rfl⟩ := Int.eq_ofNat_of_zero_le hk.1
    rw [Int.toNat_natCast]
    exact rget_in xs n _ w hl (by omega) rfl
  · rw [if_neg hk]
    exact rget_out xs k w hl (by omega)
theorem rset_tl (xs : List Int) (k y : Int) (may : Bool) (w : World) (hl : xs.length = 16) :
    Calls Try.prog 7 #[.agg (enc xs), .int .i64 k, .int .i64 y, .bool may] w fun e w' => e = .returned (.tuple #[.agg (enc (setF xs k y may).1), .bool (setF xs k y may).2]) ∧ Below w.heap.size w w' := by
  unfold setF
  by_cases hk : 0 ≤ k ∧ k < 16 ∧ may = true
  · rw [if_pos hk]
    obtain ⟨h0, h1, rfl⟩ := hk
    obtain ⟨n, rfl⟩ := Int.eq_ofNat_of_zero_le h0
    rw [Int.toNat_natCast]
    exact rset_yes xs n y w hl (by omega)
  · rw [if_neg hk]
    refine rset_no xs k y may w hl ?_
    cases may <;> simp at hk ⊢
    omega

set_option maxHeartbeats 400000 in
theorem lives_any (w : World) : Calls Try.prog 4 #[] w fun e w' => e = .returned (.bool true) ∧ Below w.heap.size w w' := by
  have hT : Tl (w.alloc (.cells (enc (List.replicate 16 0)) 31)) w.heap.size (List.replicate 16 0) 31 := ⟨Blk.new _ _ _, rfl⟩
  have hb : Below w.heap.size w (w.alloc (.cells (enc (List.replicate 16 0)) 31)) := (Below.refl _ w).alloc (Nat.le_refl _) _
  go_enter Try.func4, Try.ntmps4
  go_wp2_with fail
  refine (new_any _).mono ?_
  rintro e w1 ⟨rfl, rfl⟩
  generalize (w.alloc (.cells (enc (List.replicate 16 0)) 31)) = W0 at *
  have e1 : addF (List.replicate 16 0) 2 5 = ([0, 0, 5, 0, 0, 0, 0, 0, 0, 0, 0, 0, 0, 0, 0, 0], 5) := by simp [addF, wrap64]
  have c1 := add_tl w.heap.size _ 31 2 5 W0 hT
  rw [e1] at c1
  have e2 : setF [0, 0, 5, 0, 0, 0, 0, 0, 0, 0, 0, 0, 0, 0, 0, 0] 2 4 (decide (getF [0, 0, 5, 0, 0, 0, 0, 0, 0, 0, 0, 0, 0, 0, 0, 0] 2 < 4)) = ([0, 0, 5, 0, 0, 0, 0, 0, 0, 0, 0, 0, 0, 0, 0, 0], false) := by simp [setF, getF]
  have e3 : setF [0, 0, 5, 0, 0, 0, 0, 0, 0, 0, 0, 0, 0, 0, 0, 0] 2 9 (decide (getF [0, 0, 5, 0, 0, 0, 0, 0, 0, 0, 0, 0, 0, 0, 0, 0] 2 < 9)) = ([0, 0, 9, 0, 0, 0, 0, 0, 0, 0, 0, 0, 0, 0, 0, 0], true) := by simp [setF, getF]
  have e4 : getF [0, 0, 9, 0, 0, 0, 0, 0, 0, 0, 0, 0, 0, 0, 0, 0] 2 = 9 := by simp [getF]
  have E2 := Lib.hid e2
  have E3 := Lib.hid e3
  have E4 := Lib.hid e4
  clear e1 e2 e3 e4
  go_wp2_with fail
  refine c1.mono ?_
  rintro e w1 ⟨rfl, hT1, ho1⟩
  have hb1 := below_only hb ho1 (Nat.le_refl _)
  have c2 := raise_tl w.heap.size _ 31 2 4 w1 hT1
  rw [E2.out] at c2
  go_wp2_with fail
  refine c2.mono ?_
  rintro e w2 ⟨rfl, hT2, ho2⟩
  have hb2 := below_only hb1 ho2 (Nat.le_refl _)
  have c3 := raise_tl w.heap.size _ 31 2 9 w2 hT2
  rw [E3.out] at c3
  go_wp2_with fail
  refine c3.mono ?_
  rintro e w3 ⟨rfl, hT3, ho3⟩
  have hb3 := below_only hb2 ho3 (Nat.le_refl _)
  have c4 := get_tl w.heap.size _ 31 2 w3 hT3
  rw [E4.out] at c4
  go_wp2_with fail
  refine c4.mono ?_
  rintro e w4 ⟨rfl, rfl⟩
  go_wp2_with fail
  go_ret
  exact ⟨rfl, hb3⟩
end Go.Proofs.Ytcaekploljpmeaa
