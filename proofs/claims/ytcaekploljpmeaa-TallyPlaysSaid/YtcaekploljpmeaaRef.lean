import Derived.Test.YtcaekploljpmeaaMore
import Derived.Deep.RegionHeld3
import Derived.Deep.MidRow
namespace Go.Proofs.Ytcaekploljpmeaa
open Go.RowKit

theorem size33 (xs : List Int) (h : xs.length = 16) : (Try.prog.info? 33).map (·.size) = some (enc xs).size := by rw [enc_size, h]; kernel_rfl
theorem enc16 {xs : List Int} (h : xs.length = 16) : (enc xs).size = 16 := by rw [enc_size, h]

theorem enc_at {xs : List Int} {k : Nat} {x : Int} (hl : xs.length = 16) (h : k < 16) (hx : xs.getD k 0 = x) : ∀ h' : k < (enc xs).size, (enc xs)[k]'h' = .int .i64 x := by
  intro h'
  have h1 := enc_get xs k (by omega)
  rw [Array.getElem?_eq_getElem h', hx] at h1
  exact Option.some.inj h1

theorem cell_setCells_apart {w : World} {b' o' b o : Nat} {v : Value} {vs : List Value} (h : w.cell? ⟨b', o', none⟩ = some v) (hn : b' ≠ b) : (w.setCells b o vs).cell? ⟨b', o', none⟩ = some v := by
  have h1 : w.rangeAt b' o' [v] := by
    intro j u hu
    cases j with
    | zero => simp at hu; subst hu; exact h
    | succ j => simp at hu
  exact World.rangeAt_setCells_apart h1 b o vs (.inl hn) 0 v rfl
theorem results_mid_tmp {P : Program} {fn : Func} {p q : Tmp} {ty : TypeId} (h : fn.results = #[.cell p ty, .tmp q]) (tmps : Array Value) (w : World) (g : Nat) (cs : List Value) (d : TypeDesc)
    (hp : tmps.getD p undef = .pointer (some ⟨g, 0, none⟩)) (hg : w.rangeAt g 0 cs)
    (hu : P.underlying ty = some d) (hd : d.isRow = true) (hi : (P.info? ty).map (·.size) = some cs.length) :
    (results fn tmps).run P w = .ok (.tuple #[.agg cs.toArray, tmps.getD q undef]) w := by
  have hp' : tmps[p]?.getD undef = .pointer (some ⟨g, 0, none⟩) := by simpa using hp
  simp [results, h, hp', asAddr, run_loadVar_mid w g 0 ty cs d hg hu hd hi]
theorem below_setCells {B : Nat} {a w : World} (h : Below B a w) {b : Nat} (hb : B ≤ b) (o : Nat) (vs : List Value) : Below B a (w.setCells b o vs) := by
  induction vs generalizing w o with
  | nil => exact h
  | cons v vs ih => exact ih (h.setCell hb v) _
theorem zeros16 : enc (List.replicate 16 0) = #[.int .i64 0, .int .i64 0, .int .i64 0, .int .i64 0, .int .i64 0, .int .i64 0, .int .i64 0, .int .i64 0, .int .i64 0, .int .i64 0, .int .i64 0, .int .i64 0, .int .i64 0, .int .i64 0, .int .i64 0, .int .i64 0] := rfl
theorem two_blk (w : World) (ys : List Int) : Blk ((w.alloc (.cells (enc ys) 33)).alloc (.cells (enc (List.replicate 16 0)) 33)) w.heap.size (enc ys) 33 := (Blk.new w (enc ys) 33).alloc _
theorem two_new (w : World) (ys : List Int) : Blk ((w.alloc (.cells (enc ys) 33)).alloc (.cells (enc (List.replicate 16 0)) 33)) (w.heap.size + 1) (enc (List.replicate 16 0)) 33 := by
  have h := Blk.new (w.alloc (.cells (enc ys) 33)) (enc (List.replicate 16 0)) 33
  rwa [World.size_alloc] at h
theorem two (w : World) (ys : List Int) : ((w.alloc (.cells (enc ys) 33)).alloc (.cells (enc (List.replicate 16 0)) 33)).rangeAt w.heap.size 0 (enc ys).toList := by
  intro j v hv
  rw [(two_blk w ys).cell]
  simpa using hv
theorem two_there (w : World) (ys : List Int) : ((w.alloc (.cells (enc ys) 33)).alloc (.cells (enc (List.replicate 16 0)) 33)).there (w.heap.size + 1) 0 16 := by
  intro j hj
  rw [(two_new w ys).cell, (two_new w ys).free]
  simp [enc, hj]
theorem two_cell (w : World) (ys : List Int) (k : Nat) (x : Int) (h : ys.length = 16) (hk : k < 16) (hx : ys.getD k 0 = x) : ((w.alloc (.cells (enc ys) 33)).alloc (.cells (enc (List.replicate 16 0)) 33)).cell? ⟨w.heap.size, k, none⟩ = some (.int .i64 x) := by
  rw [(two_blk w ys).cell, enc_get _ _ (by omega), hx]

/-- A result of a struct or an array and a plain one. -/
theorem results_cell_tmp {P : Program} {fn : Func} {p q : Tmp} {ty : TypeId} (h : fn.results = #[.cell p ty, .tmp q]) (tmps : Array Value) (w : World) (g : Nat) (t : TypeId) (cs : Array Value) (d : TypeDesc)
    (hp : tmps.getD p undef = .pointer (some ⟨g, 0, none⟩)) (hg : Blk w g cs t)
    (hu : P.underlying ty = some d) (hd : (match d with | .struct _ | .array _ _ => true | _ => false) = true) (hi : (P.info? ty).map (·.size) = some cs.size) :
    (results fn tmps).run P w = .ok (.tuple #[.agg cs, tmps.getD q undef]) w := by
  have hp' : tmps[p]?.getD undef = .pointer (some ⟨g, 0, none⟩) := by simpa using hp
  simp [results, h, hp', asAddr, run_loadVar_row w g t ty cs (0, 0) d hg hu hd hi]

set_option maxHeartbeats 400000 in
theorem radd_out (xs : List Int) (k d : Int) (w : World) (hl : xs.length = 16) (h : k < 0 ∨ 16 ≤ k) :
    Calls Try.prog 5 #[.agg (enc xs), .int .i64 k, .int .i64 d] w fun e w' => e = .returned (.tuple #[.agg (enc xs), .int .i64 0]) ∧ Below w.heap.size w w' := by
  have hlen := Lib.hid hl
  have hs := enc16 hl
  clear hl
  by_cases h0 : k < 0
  all_goals
    try (have h1 : 16 ≤ k := by omega)
    clear h
    go_enter Try.func5, Try.ntmps5
    go_wp2_with (first
        | (refine wpList_load_row rfl 33 (.tmp 3) rfl w.heap.size rfl 33 (enc xs) (0, 0) (.array 16 2) ((Blk.new w (enc xs) 33).alloc _) (by kernel_rfl) rfl (by rw [hs]; kernel_rfl) ?_)
        | (refine wpList_store_row rfl 33 (.tmp 6) (.tmp 14) rfl (w.heap.size + 1) rfl (enc xs) rfl 33 (enc (List.replicate 16 0)) (by have := Blk.new (w.alloc (.cells (enc xs) 33)) (enc (List.replicate 16 0)) 33; rwa [World.size_alloc] at this) (by rw [hs]; kernel_rfl) (by rw [hs]; rfl) (enc_one xs) ?_))
    refine bodyPost_ret (v := .tuple #[.agg (enc xs), .int .i64 0]) ?_ rfl ⟨rfl, below_putB (((Below.refl _ w).alloc (Nat.le_refl _) _).alloc (by simp) _) (by omega) _⟩
    refine results_cell_tmp (p := 6) (q := 7) (ty := 33) rfl _ _ (w.heap.size + 1) 33 (enc xs) (.array 16 2) rfl (Blk.put (by simp) _ _) (by kernel_rfl) rfl (by rw [hs]; kernel_rfl)

set_option maxHeartbeats 400000 in
theorem radd_in (xs : List Int) (k : Nat) (x d : Int) (w : World) (hl : xs.length = 16) (h : k < 16) (hx : xs.getD k 0 = x) :
    Calls Try.prog 5 #[.agg (enc xs), .int .i64 k, .int .i64 d] w fun e w' => e = .returned (.tuple #[.agg (enc (xs.set k (wrap64 (x + d)))), .int .i64 (wrap64 (x + d))]) ∧ Below w.heap.size w w' := by
  have hlen := Lib.hid hl
  have hs := enc16 hl
  have hg : ∀ h' : k < (enc xs).size, (enc xs)[k]'h' = .int .i64 x := enc_at hl h hx
  have h16 : (k : Int) < 16 := by omega
  clear hl hx
  go_enter Try.func5, Try.ntmps5
  go_wp2_with fail
  rw [enc_set]
  obtain ⟨ys, hys⟩ : ∃ ys, xs.set k (wrap64 (x + d)) = ys := ⟨_, rfl⟩
  rw [hys]
  have hysl : ys.length = 16 := by rw [← hys, List.length_set, hlen.out]
  have hT := two w ys
  have hsz : ((w.alloc (.cells (enc ys) 33)).alloc (.cells #[.int .i64 0, .int .i64 0, .int .i64 0, .int .i64 0, .int .i64 0, .int .i64 0, .int .i64 0, .int .i64 0, .int .i64 0, .int .i64 0, .int .i64 0, .int .i64 0, .int .i64 0, .int .i64 0, .int .i64 0, .int .i64 0] 33)).heap.size = w.heap.size + 2 := by simp
  have hbl : Below w.heap.size w ((w.alloc (.cells (enc ys) 33)).alloc (.cells #[.int .i64 0, .int .i64 0, .int .i64 0, .int .i64 0, .int .i64 0, .int .i64 0, .int .i64 0, .int .i64 0, .int .i64 0, .int .i64 0, .int .i64 0, .int .i64 0, .int .i64 0, .int .i64 0, .int .i64 0, .int .i64 0] 33)) := ((Below.refl _ w).alloc (Nat.le_refl _) _).alloc (by simp) _
  have hth := two_there w ys
  have hce := two_cell w ys k (wrap64 (x + d)) hysl h (by rw [← hys]; simp [hlen.out, h])
  rw [zeros16] at hth hce hT
  generalize hW : (w.alloc (.cells (enc ys) 33)).alloc (.cells #[.int .i64 0, .int .i64 0, .int .i64 0, .int .i64 0, .int .i64 0, .int .i64 0, .int .i64 0, .int .i64 0, .int .i64 0, .int .i64 0, .int .i64 0, .int .i64 0, .int .i64 0, .int .i64 0, .int .i64 0, .int .i64 0] 33) = W at *
  have hu := Try.underlying33
  have hi : (Try.prog.info? 33).map (·.size) = some (enc ys).toList.length := by
    have := size33 ys hysl
    simpa using this
  have hll : (enc ys).toList.length = 16 := by simp [enc, hysl]
  have hone := enc_one ys
  go_region_held3 (fun w' => w'.rangeAt w.heap.size 0 (enc ys).toList ∧ w'.cell? ⟨w.heap.size, k, none⟩ = some (.int .i64 (wrap64 (x + d))) ∧ w'.there (w.heap.size + 1) 0 16)
    (first | go_keep_ranges | (go_split_ands; refine ⟨World.rangeAt_setCells_apart (by assumption) _ _ _ (.inl (by omega)), cell_setCells_apart (by assumption) (by omega), World.there_setCells (by assumption) _ _ _⟩)) (fail)
  go_wp2
  have hth2 : (W.drew).there (w.heap.size + 1) 0 (enc ys).toList.length := by rw [hll]; exact hth
  refine bodyPost_ret (v := .tuple #[.agg (enc ys), .int .i64 (wrap64 (x + d))]) ?_ rfl ⟨by rw [hys], below_setCells hbl.drew (by omega) _ _⟩
  have hr := World.rangeAt_setCells_same W.drew (w.heap.size + 1) 0 (enc ys).toList hth2
  refine results_mid_tmp (p := 6) (q := 7) (ty := 33) rfl _ _ (w.heap.size + 1) (enc ys).toList (.array 16 2) rfl hr hu rfl hi

set_option maxHeartbeats 400000 in
theorem rset_no (xs : List Int) (k y : Int) (may : Bool) (w : World) (hl : xs.length = 16) (h : (decide (k < 0) || decide (15 < k) || !may) = true) :
    Calls Try.prog 7 #[.agg (enc xs), .int .i64 k, .int .i64 y, .bool may] w fun e w' => e = .returned (.tuple #[.agg (enc xs), .bool false]) ∧ Below w.heap.size w w' := by
  have hlen := Lib.hid hl
  have hs := enc16 hl
  clear hl
  by_cases h0 : k < 0 <;> by_cases h1 : 15 < k <;> cases may
  all_goals
    first
    | (exfalso; simp [h0, h1] at h; done)
    | (exfalso; omega)
    | (clear h
       go_enter Try.func7, Try.ntmps7
       go_wp2_with (first
        | (refine wpList_load_row rfl 33 (.tmp 4) rfl w.heap.size rfl 33 (enc xs) (0, 0) (.array 16 2) ((Blk.new w (enc xs) 33).alloc _) (by kernel_rfl) rfl (by rw [hs]; kernel_rfl) ?_)
        | (refine wpList_store_row rfl 33 (.tmp 8) (.tmp 20) rfl (w.heap.size + 1) rfl (enc xs) rfl 33 (enc (List.replicate 16 0)) (by have := Blk.new (w.alloc (.cells (enc xs) 33)) (enc (List.replicate 16 0)) 33; rwa [World.size_alloc] at this) (by rw [hs]; kernel_rfl) (by rw [hs]; rfl) (enc_one xs) ?_))
       refine bodyPost_ret (v := .tuple #[.agg (enc xs), .bool false]) ?_ rfl ⟨rfl, below_putB (((Below.refl _ w).alloc (Nat.le_refl _) _).alloc (by simp) _) (by omega) _⟩
       refine results_cell_tmp (p := 8) (q := 9) (ty := 33) rfl _ _ (w.heap.size + 1) 33 (enc xs) (.array 16 2) rfl (Blk.put (by simp) _ _) (by kernel_rfl) rfl (by rw [hs]; kernel_rfl))

set_option maxHeartbeats 400000 in
theorem rset_yes (xs : List Int) (k : Nat) (y : Int) (w : World) (hl : xs.length = 16) (h : k < 16) :
    Calls Try.prog 7 #[.agg (enc xs), .int .i64 k, .int .i64 y, .bool true] w fun e w' => e = .returned (.tuple #[.agg (enc (xs.set k y)), .bool true]) ∧ Below w.heap.size w w' := by
  have hlen := Lib.hid hl
  have hs := enc16 hl
  have h16 : (k : Int) < 16 := by omega
  have hs2 : (enc (xs.set k y)).size = 16 := by rw [enc_size, List.length_set, hl]
  clear hl
  go_enter Try.func7, Try.ntmps7
  go_wp2_with (first
        | (refine wpList_load_row rfl 33 (.tmp 4) rfl w.heap.size rfl 33 (enc (xs.set k y)) (0, 0) (.array 16 2) (by rw [← enc_set]; exact ((Blk.new w ((enc xs).setIfInBounds k (.int .i64 y)) 33).alloc _)) (by kernel_rfl) rfl (by rw [hs2]; kernel_rfl) ?_)
        | (refine wpList_store_row rfl 33 (.tmp 8) (.tmp 24) rfl (w.heap.size + 1) rfl (enc (xs.set k y)) rfl 33 (enc (List.replicate 16 0)) (by have := Blk.new (w.alloc (.cells ((enc xs).setIfInBounds k (.int .i64 y)) 33)) (enc (List.replicate 16 0)) 33; rwa [World.size_alloc] at this) (by rw [hs2]; kernel_rfl) (by rw [hs2]; rfl) (enc_one _) ?_))
  refine bodyPost_ret (v := .tuple #[.agg (enc (xs.set k y)), .bool true]) ?_ rfl ⟨rfl, below_putB (((Below.refl _ w).alloc (Nat.le_refl _) _).alloc (by simp) _) (by omega) _⟩
  refine results_cell_tmp (p := 8) (q := 9) (ty := 33) rfl _ _ (w.heap.size + 1) 33 (enc (xs.set k y)) (.array 16 2) rfl (Blk.put (by simp) _ _) (by kernel_rfl) rfl (by rw [hs2]; kernel_rfl)

set_option maxHeartbeats 400000 in
theorem rget_out (xs : List Int) (k : Int) (w : World) (hl : xs.length = 16) (h : k < 0 ∨ 16 ≤ k) :
    Calls Try.prog 8 #[.agg (enc xs), .int .i64 k] w fun e w' => e = .returned (.int .i64 0) ∧ Below w.heap.size w w' := by
  have hs := enc16 hl
  clear hl
  by_cases h0 : k < 0
  all_goals
    try (have h1 : 16 ≤ k := by omega)
    clear h
    go_enter Try.func8, Try.ntmps8
    go_wp2
    go_ret
    exact ⟨rfl, (Below.refl _ w).alloc (Nat.le_refl _) _⟩
theorem rget_in (xs : List Int) (k : Nat) (x : Int) (w : World) (hl : xs.length = 16) (h : k < 16) (hx : xs.getD k 0 = x) :
    Calls Try.prog 8 #[.agg (enc xs), .int .i64 k] w fun e w' => e = .returned (.int .i64 x) ∧ Below w.heap.size w w' := by
  have hs := enc16 hl
  have hg : ∀ h' : k < (enc xs).size, (enc xs)[k]'h' = .int .i64 x := enc_at hl h hx
  have h16 : (k : Int) < 16 := by omega
  clear hl hx
  go_enter Try.func8, Try.ntmps8
  go_wp2
  go_ret
  exact ⟨rfl, (Below.refl _ w).alloc (Nat.le_refl _) _⟩
end Go.Proofs.Ytcaekploljpmeaa
