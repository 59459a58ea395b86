import Derived.Test.YtcaekploljpmeaaProg
import Derived.Test.YtcaekploljpmeaaBase
import Derived.KernelRfl
import Derived.Lib.Hide
import Derived.BigQuiet
import Derived.Deep.QuietTactic
namespace Go.Proofs.Ytcaekploljpmeaa
open Go.RowKit

theorem at_out (b : Nat) (k : Int) (w : World) (h : k < 0 ∨ 16 ≤ k) :
    Calls Try.prog 16 #[.pointer (some ⟨b, 0, none⟩), .int .i64 k] w fun e w' => e = .returned (.pointer none) ∧ w' = w := by
  by_cases h0 : k < 0
  · go_enter Try.func16, Try.ntmps16
    go_wp2
    go_ret
    exact ⟨rfl, rfl⟩
  · have h1 : 16 ≤ k := by omega
    go_enter Try.func16, Try.ntmps16
    go_wp2
    go_ret
    exact ⟨rfl, rfl⟩

theorem at_in (b k : Nat) (w : World) (h : k < 16) :
    Calls Try.prog 16 #[.pointer (some ⟨b, 0, none⟩), .int .i64 k] w fun e w' => e = .returned (.pointer (some ⟨b, k, none⟩)) ∧ w' = w := by
  go_enter Try.func16, Try.ntmps16
  go_wp2
  go_ret
  exact ⟨rfl, rfl⟩

theorem aadd (a : Addr) (x d : Int) (w : World) (hc : w.cell? a = some (.int .i64 x)) (hz : w.frozen? a = false) :
    Calls Try.prog 17 #[.pointer (some a), .int .i64 d] w fun e w' => e = .returned (.int .i64 (wrap64 (x + d))) ∧ w' = w.setCell a (.int .i64 (wrap64 (x + d))) := by
  have hadd := run_call_add (P := Try.prog) Try.func21 (by kernel_rfl) (by kernel_rfl) (by kernel_rfl) .i64 (by kernel_rfl) (y := d) (s := wrap64 (x + d)) hc hz (by simp [go_sem, wrap64, IntKind.wrap_i64])
  go_enter Try.func17, Try.ntmps17
  go_wp2
  go_ret
  exact ⟨rfl, rfl⟩

theorem aload (a : Addr) (x : Int) (w : World) (hc : w.cell? a = some (.int .i64 x)) :
    Calls Try.prog 18 #[.pointer (some a)] w fun e w' => e = .returned (.int .i64 x) ∧ w' = w := by
  have hl := run_call_load (P := Try.prog) Try.func22 (by kernel_rfl) (by kernel_rfl) (by kernel_rfl) .i64 (by kernel_rfl) hc
  go_enter Try.func18, Try.ntmps18
  go_wp2
  go_ret
  exact ⟨rfl, rfl⟩

theorem acas_hit (a : Addr) (x y : Int) (w : World) (hc : w.cell? a = some (.int .i64 x)) (hz : w.frozen? a = false) :
    Calls Try.prog 19 #[.pointer (some a), .int .i64 x, .int .i64 y] w fun e w' => e = .returned (.bool true) ∧ w' = w.setCell a (.int .i64 y) := by
  have hl := run_call_cas_hit (P := Try.prog) Try.func23 (by kernel_rfl) (by kernel_rfl) (by kernel_rfl) .i64 (by kernel_rfl) (y := y) hc hz
  go_enter Try.func19, Try.ntmps19
  go_wp2
  go_ret
  exact ⟨rfl, rfl⟩

theorem acas_miss (a : Addr) (x o y : Int) (w : World) (hc : w.cell? a = some (.int .i64 x)) (hz : w.frozen? a = false) (hn : ¬ x = o) :
    Calls Try.prog 19 #[.pointer (some a), .int .i64 o, .int .i64 y] w fun e w' => e = .returned (.bool false) ∧ w' = w := by
  have hl := run_call_cas_miss (P := Try.prog) Try.func23 (by kernel_rfl) (by kernel_rfl) (by kernel_rfl) .i64 (by kernel_rfl) (y := y) hc hz hn
  go_enter Try.func19, Try.ntmps19
  go_wp2
  go_ret
  exact ⟨rfl, rfl⟩

theorem astore (a : Addr) (x : Value) (y : Int) (w : World) (hc : w.cell? a = some x) (hz : w.frozen? a = false) :
    Calls Try.prog 20 #[.pointer (some a), .int .i64 y] w fun e w' => e = .returned (.tuple #[]) ∧ w' = w.setCell a (.int .i64 y) := by
  have hl := run_call_store (P := Try.prog) Try.func24 (by kernel_rfl) (by kernel_rfl) (by kernel_rfl) (by kernel_rfl) (k := .i64) (y := y) hc hz
  go_enter Try.func20, Try.ntmps20
  go_wp2
  go_end0
  exact ⟨rfl, rfl⟩

/-! ### The counts as numbers -/
def enc (xs : List Int) : Array Value := (xs.map (Value.int .i64)).toArray
theorem enc_size (xs : List Int) : (enc xs).size = xs.length := by simp [enc]
theorem enc_get (xs : List Int) (k : Nat) (h : k < xs.length) : (enc xs)[k]? = some (.int .i64 (xs.getD k 0)) := by
  simp [enc, List.getElem?_eq_getElem h]
theorem enc_set (xs : List Int) (k : Nat) (v : Int) : (enc xs).setIfInBounds k (.int .i64 v) = enc (xs.set k v) := by
  simp [enc, List.map_set]

/-- The pointer's block is 16 counts. -/
structure Tl (w : World) (b : Nat) (xs : List Int) (t : TypeId) : Prop where
  blk : Blk w b (enc xs) t
  len : xs.length = 16

theorem Tl.cell {w : World} {b : Nat} {xs : List Int} {t : TypeId} (h : Tl w b xs t) (k : Nat) (hk : k < 16) : w.cell? ⟨b, k, none⟩ = some (.int .i64 (xs.getD k 0)) := by
  rw [h.blk.cell, enc_get _ _ (by rw [h.len]; exact hk)]
theorem Tl.set {w : World} {b : Nat} {xs : List Int} {t : TypeId} (h : Tl w b xs t) (k : Nat) (v : Int) : Tl (w.setCell ⟨b, k, none⟩ (.int .i64 v)) b (xs.set k v) t :=
  ⟨by rw [← enc_set]; exact h.blk.set k _, by simp [h.len]⟩

theorem add_out (b : Nat) (k d : Int) (w : World) (h : k < 0 ∨ 16 ≤ k) :
    Calls Try.prog 6 #[.pointer (some ⟨b, 0, none⟩), .int .i64 k, .int .i64 d] w fun e w' => e = .returned (.int .i64 0) ∧ w' = w := by
  go_enter Try.func6, Try.ntmps6
  go_wp2_with (first | (go_at_call 16; refine (at_out _ _ _ h).mono ?_; rintro e w' ⟨rfl, rfl⟩))
  go_ret
  exact ⟨rfl, rfl⟩
theorem add_in (b k : Nat) (x d : Int) (w : World) (h : k < 16) (hc : w.cell? ⟨b, k, none⟩ = some (.int .i64 x)) (hz : w.frozen? ⟨b, k, none⟩ = false) :
    Calls Try.prog 6 #[.pointer (some ⟨b, 0, none⟩), .int .i64 k, .int .i64 d] w fun e w' => e = .returned (.int .i64 (wrap64 (x + d))) ∧ w' = w.setCell ⟨b, k, none⟩ (.int .i64 (wrap64 (x + d))) := by
  go_enter Try.func6, Try.ntmps6
  go_wp2_with (first | (go_at_call 16; refine (at_in _ _ _ h).mono ?_; rintro e w' ⟨rfl, rfl⟩) | (go_at_call 17; refine (aadd _ _ _ _ hc hz).mono ?_; rintro e w' ⟨rfl, rfl⟩))
  go_ret
  exact ⟨rfl, rfl⟩

theorem get_out (b : Nat) (k : Int) (w : World) (h : k < 0 ∨ 16 ≤ k) :
    Calls Try.prog 12 #[.pointer (some ⟨b, 0, none⟩), .int .i64 k] w fun e w' => e = .returned (.int .i64 0) ∧ w' = w := by
  go_enter Try.func12, Try.ntmps12
  go_wp2_with (first | (go_at_call 16; refine (at_out _ _ _ h).mono ?_; rintro e w' ⟨rfl, rfl⟩))
  go_ret
  exact ⟨rfl, rfl⟩
theorem get_in (b k : Nat) (x : Int) (w : World) (h : k < 16) (hc : w.cell? ⟨b, k, none⟩ = some (.int .i64 x)) :
    Calls Try.prog 12 #[.pointer (some ⟨b, 0, none⟩), .int .i64 k] w fun e w' => e = .returned (.int .i64 x) ∧ w' = w := by
  go_enter Try.func12, Try.ntmps12
  go_wp2_with (first | (go_at_call 16; refine (at_in _ _ _ h).mono ?_; rintro e w' ⟨rfl, rfl⟩) | (go_at_call 18; refine (aload _ _ _ hc).mono ?_; rintro e w' ⟨rfl, rfl⟩))
  go_ret
  exact ⟨rfl, rfl⟩

theorem swap_out (b : Nat) (k x y : Int) (w : World) (h : k < 0 ∨ 16 ≤ k) :
    Calls Try.prog 10 #[.pointer (some ⟨b, 0, none⟩), .int .i64 k, .int .i64 x, .int .i64 y] w fun e w' => e = .returned (.bool false) ∧ w' = w := by
  go_enter Try.func10, Try.ntmps10
  go_wp2_with (first | (go_at_call 16; refine (at_out _ _ _ h).mono ?_; rintro e w' ⟨rfl, rfl⟩))
  go_ret
  exact ⟨rfl, rfl⟩
theorem swap_hit (b k : Nat) (x y : Int) (w : World) (h : k < 16) (hc : w.cell? ⟨b, k, none⟩ = some (.int .i64 x)) (hz : w.frozen? ⟨b, k, none⟩ = false) :
    Calls Try.prog 10 #[.pointer (some ⟨b, 0, none⟩), .int .i64 k, .int .i64 x, .int .i64 y] w fun e w' => e = .returned (.bool true) ∧ w' = w.setCell ⟨b, k, none⟩ (.int .i64 y) := by
  go_enter Try.func10, Try.ntmps10
  go_wp2_with (first | (go_at_call 16; refine (at_in _ _ _ h).mono ?_; rintro e w' ⟨rfl, rfl⟩) | (go_at_call 19; refine (acas_hit _ _ _ _ hc hz).mono ?_; rintro e w' ⟨rfl, rfl⟩))
  go_ret
  exact ⟨rfl, rfl⟩
theorem swap_miss (b k : Nat) (x o y : Int) (w : World) (h : k < 16) (hc : w.cell? ⟨b, k, none⟩ = some (.int .i64 x)) (hz : w.frozen? ⟨b, k, none⟩ = false) (hn : ¬ x = o) :
    Calls Try.prog 10 #[.pointer (some ⟨b, 0, none⟩), .int .i64 k, .int .i64 o, .int .i64 y] w fun e w' => e = .returned (.bool false) ∧ w' = w := by
  go_enter Try.func10, Try.ntmps10
  go_wp2_with (first | (go_at_call 16; refine (at_in _ _ _ h).mono ?_; rintro e w' ⟨rfl, rfl⟩) | (go_at_call 19; refine (acas_miss _ _ _ _ _ hc hz hn).mono ?_; rintro e w' ⟨rfl, rfl⟩))
  go_ret
  exact ⟨rfl, rfl⟩

theorem raise_out (b : Nat) (k y : Int) (w : World) (h : k < 0 ∨ 16 ≤ k) :
    Calls Try.prog 9 #[.pointer (some ⟨b, 0, none⟩), .int .i64 k, .int .i64 y] w fun e w' => e = .returned (.bool false) ∧ w' = w := by
  go_enter Try.func9, Try.ntmps9
  go_wp2_with (first | (go_at_call 16; refine (at_out _ _ _ h).mono ?_; rintro e w' ⟨rfl, rfl⟩))
  refine wp_loop_rounds 1 ?_
  rw [rounds_succ]
  go_wp2
  go_ret
  exact ⟨rfl, rfl⟩
theorem raise_no (b k : Nat) (x y : Int) (w : World) (h : k < 16) (hc : w.cell? ⟨b, k, none⟩ = some (.int .i64 x)) (hn : y ≤ x) :
    Calls Try.prog 9 #[.pointer (some ⟨b, 0, none⟩), .int .i64 k, .int .i64 y] w fun e w' => e = .returned (.bool false) ∧ w' = w := by
  go_enter Try.func9, Try.ntmps9
  go_wp2_with (first | (go_at_call 16; refine (at_in _ _ _ h).mono ?_; rintro e w' ⟨rfl, rfl⟩))
  refine wp_loop_rounds 1 ?_
  rw [rounds_succ]
  go_wp2_with (first | (go_at_call 18; refine (aload _ _ _ hc).mono ?_; rintro e w' ⟨rfl, rfl⟩))
  go_ret
  exact ⟨rfl, rfl⟩
theorem raise_yes (b k : Nat) (x y : Int) (w : World) (h : k < 16) (hc : w.cell? ⟨b, k, none⟩ = some (.int .i64 x)) (hz : w.frozen? ⟨b, k, none⟩ = false) (hn : x < y) :
    Calls Try.prog 9 #[.pointer (some ⟨b, 0, none⟩), .int .i64 k, .int .i64 y] w fun e w' => e = .returned (.bool true) ∧ w' = w.setCell ⟨b, k, none⟩ (.int .i64 y) := by
  go_enter Try.func9, Try.ntmps9
  go_wp2_with (first | (go_at_call 16; refine (at_in _ _ _ h).mono ?_; rintro e w' ⟨rfl, rfl⟩))
  refine wp_loop_rounds 1 ?_
  rw [rounds_succ]
  go_wp2_with (first | (go_at_call 18; refine (aload _ _ _ hc).mono ?_; rintro e w' ⟨rfl, rfl⟩) | (go_at_call 19; refine (acas_hit _ _ _ _ hc hz).mono ?_; rintro e w' ⟨rfl, rfl⟩))
  go_ret
  exact ⟨rfl, rfl⟩

theorem new_any (w : World) : Calls Try.prog 15 #[] w fun e w' => e = .returned (.pointer (some ⟨w.heap.size, 0, none⟩)) ∧ w' = w.alloc (.cells (enc (List.replicate 16 0)) 31) := by
  go_enter Try.func15, Try.ntmps15
  go_wp2
  go_ret
  exact ⟨rfl, rfl⟩
end Go.Proofs.Ytcaekploljpmeaa
