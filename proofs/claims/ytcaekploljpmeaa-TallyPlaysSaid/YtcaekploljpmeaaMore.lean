import Derived.Test.YtcaekploljpmeaaWalk
namespace Go.Proofs.Ytcaekploljpmeaa
open Go.RowKit

/-- What the loop over the counts has gathered: the first k of them, the others 0. -/
def part (xs : List Int) (k : Nat) : List Int := xs.take k ++ List.replicate (16 - k) 0
theorem part_len (xs : List Int) (k : Nat) (h : xs.length = 16) (hk : k ≤ 16) : (part xs k).length = 16 := by
  simp [part]; omega
theorem part_zero (xs : List Int) : part xs 0 = List.replicate 16 0 := by simp [part]
theorem part_all (xs : List Int) (h : xs.length = 16) : part xs 16 = xs := by simp [part, ← h]
theorem part_step (xs : List Int) (k : Nat) (h : xs.length = 16) (hk : k < 16) : (part xs k).set k (xs.getD k 0) = part xs (k + 1) := by
  unfold part
  have h1 : (List.take k xs).length = k := by simp; omega
  rw [List.set_append_right _ _ (by omega), h1, Nat.sub_self]
  have h2 : List.replicate (16 - k) (0 : Int) = 0 :: List.replicate (16 - (k + 1)) 0 := by
    rw [← List.replicate_succ]; congr 1; omega
  rw [h2, List.set_cons_zero, List.take_succ_eq_append_getElem (by omega : k < xs.length)]
  simp only [List.getD_eq_getElem?_getD, List.getElem?_eq_getElem (by omega : k < xs.length), Option.getD_some, List.append_assoc, List.singleton_append]

theorem Tl.below {w w' : World} {b B : Nat} {xs : List Int} {t : TypeId} (h : Tl w b xs t) (hb : Below B w w') (hlt : b < B) : Tl w' b xs t := ⟨h.blk.below hb hlt, h.len⟩
theorem enc_one (xs : List Int) : ∀ v ∈ (enc xs).toList, v.oneCell' = true := by
  intro v hv
  simp only [enc, List.mem_map] at hv
  obtain ⟨x, _, rfl⟩ := hv
  rfl

set_option maxHeartbeats 400000 in
theorem all_any (b : Nat) (xs : List Int) (t : TypeId) (w : World) (h : Tl w b xs t) :
    Calls Try.prog 13 #[.pointer (some ⟨b, 0, none⟩)] w fun e w' => e = .returned (.agg (enc xs)) ∧ Below w.heap.size w w' := by
  have hb := h.blk.lt
  have hlen := Lib.hid h.len
  go_enter Try.func13, Try.ntmps13
  go_wp2
  go_loopw [5] (fun i wr => ∃ k : Nat, k ≤ 16 ∧ i = .int .i64 k ∧ Tl wr (w.heap.size + 1) (part xs k) 32 ∧ Blk wr w.heap.size (enc (List.replicate 16 0)) 32 ∧ Below w.heap.size w wr) (fun i _ => 16 - (intOf i).toNat)
  case atStart =>
    have h0 : Blk (w.alloc (.cells (enc (List.replicate 16 0)) 32)) w.heap.size (enc (List.replicate 16 0)) 32 := Blk.new _ _ _
    have h1 := Blk.new (w.alloc (.cells (enc (List.replicate 16 0)) 32)) (enc (List.replicate 16 0)) 32
    have hbl : Below w.heap.size w (w.alloc (.cells (enc (List.replicate 16 0)) 32)) := (Below.refl _ _).alloc (Nat.le_refl _) _
    refine ⟨0, by omega, rfl, ⟨?_, part_len _ _ h.len (by omega)⟩, h0.alloc _, hbl.alloc (by simp) _⟩
    rw [part_zero]
    have e : (w.alloc (.cells (enc (List.replicate 16 0)) 32)).heap.size = w.heap.size + 1 := by simp
    rw [e] at h1
    exact h1
  case round =>
    obtain ⟨k, hk, rfl, hT, hB, hBel⟩ := hrel
    by_cases hlt : k < 16
    · have hc1 := (h.below hBel hb).cell k hlt
      have hc2 := hT.cell k hlt
      have hz2 := hT.blk.free k
      go_wp2_with (first | (go_at_call 18; refine (aload _ _ _ hc1).mono ?_; rintro e w' ⟨rfl, rfl⟩))
      go_roundw
      case rel =>
        refine ⟨k + 1, by omega, by go_num, ?_, hB.set_ne _ _ (by simp), hBel.setCell (by simp) _⟩
        rw [← part_step xs k hlen.out hlt]
        exact hT.set k _
      case measure => simp [intOf]; omega
    · have hk16 : k = 16 := by omega
      subst hk16
      rw [part_all xs hlen.out] at hT
      have hs : (enc xs).size = 16 := by rw [enc_size, hlen.out]
      have hs0 : (enc (List.replicate 16 0)).size = 16 := by simp [enc]
      go_wp2_with (first
        | (refine wpList_load_row rfl 32 (.tmp 3) rfl (w.heap.size + 1) rfl 32 (enc xs) (0, 0) (.array 16 2) hT.blk (by kernel_rfl) rfl (by rw [hs]; kernel_rfl) ?_)
        | (refine wpList_store_row rfl 32 (.tmp 2) (.tmp 17) rfl w.heap.size rfl (enc xs) rfl 32 (enc (List.replicate 16 0)) hB (by rw [hs]; kernel_rfl) (by rw [hs, hs0]) (enc_one xs) ?_))
      have hlt2 : w.heap.size < wr.heap.size := hB.lt
      refine bodyPost_ret (v := .agg (enc xs)) (results_cell_row rfl _ _ w.heap.size 32 (enc xs) (0, 0) (.array 16 2) rfl (Blk.put hlt2 _ _) (by kernel_rfl) rfl (by rw [hs]; kernel_rfl)) rfl ⟨rfl, below_putB hBel (Nat.le_refl _) _⟩
end Go.Proofs.Ytcaekploljpmeaa
