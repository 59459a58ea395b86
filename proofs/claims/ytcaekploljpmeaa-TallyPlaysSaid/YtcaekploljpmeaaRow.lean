/- For every list of acts and every number TallyPlays returns true, and both read afterwards as before: the tally answers as the row of sixteen numbers does, act by act. No condition on the arguments. -/
import Derived.Test.YtcaekploljpmeaaRows
import Derived.Test.YtcaekploljpmeaaMain
import Derived.ProofKit
import Derived.OpenShut
import Derived.ChangeOld
import Derived.Deep.Slices
import Derived.Deep.Fields
namespace Go.Proofs.Ytcaekploljpmeaa
open Go.ChangeShapes Go.WideShapes Go.ChangeAt Go.RowKit Go.Deep

theorem own : ownKnob Try.prog.godebug = none := by kernel_rfl
theorem laidOut : laidOutB Try.prog = true := by kernel_rfl

/-- The four cells of an act. -/
def ActAt (w : World) (a : Addr) (i : Nat) : Prop :=
  ∃ kd k x y : Int, w.cell? (a.add (i * 4)) = some (.int .u8 kd) ∧ w.cell? (a.add (i * 4 + 1)) = some (.int .i64 k) ∧ w.cell? (a.add (i * 4 + 2)) = some (.int .i64 x) ∧ w.cell? (a.add (i * 4 + 3)) = some (.int .i64 y) ∧ 0 ≤ kd ∧ kd ≤ 255
def IsActs (w : World) (A : Option Addr) (len : Nat) : Prop := len ≤ maxLen ∧ (len = 0 ∨ ∃ a, A = some a ∧ ∀ i, i < len → ActAt w a i)

theorem plays_none (A : Option Addr) (cap : Nat) (at_ : Int) (w : World) :
    Calls Try.prog 3 #[.slice A 0 cap, .int .i64 at_] w fun e w' => e = .returned (.bool true) ∧ Below w.heap.size w w' := by
  go_enter Try.func3, Try.ntmps3
  go_wp2_with (first | (go_at_call 4; refine (lives_any _).mono ?_; rintro e w1 ⟨rfl, hb1⟩))
  refine wp_loop_rounds 1 ?_
  rw [rounds_succ]
  go_wp2_with fail
  go_ret
  exact ⟨rfl, (hb1.alloc hb1.size _).alloc (by simp; have := hb1.size; omega) _⟩

theorem plays_many (A : Option Addr) (len cap : Nat) (at_ : Int) (w : World) (h : 60 < len) (hm : len ≤ maxLen) :
    Calls Try.prog 3 #[.slice A len cap, .int .i64 at_] w fun e w' => e = .returned (.bool true) ∧ Below w.heap.size w w' := by
  unfold maxLen at hm
  have h60 : (60 : Int) < (len : Int) := by omega
  go_enter Try.func3, Try.ntmps3
  go_wp2_with fail
  refine (lives_any _).mono ?_
  rintro e w1 ⟨rfl, hb1⟩
  go_wp2_with fail
  refine (lives_any _).mono ?_
  rintro e w2 ⟨rfl, hb2⟩
  go_wp2_with fail
  go_ret
  exact ⟨rfl, hb1.trans (hb2.mono hb1.size)⟩

theorem walk (A : Option Addr) (len cap : Nat) (at_ : Int) (w : World) (h : IsActs w A len) :
    Calls Try.prog 3 #[.slice A len cap, .int .i64 at_] w fun e w' => e = .returned (.bool true) ∧ Below w.heap.size w w' := by
  obtain ⟨hm, h0 | ⟨a, rfl, ha⟩⟩ := h
  · subst h0; exact plays_none A cap at_ w
  · by_cases h60 : 60 < len
    · exact plays_many _ _ _ _ _ h60 hm
    · by_cases hz : len = 0
      · subst hz; exact plays_none _ cap at_ w
      · obtain ⟨b, off, spot⟩ := a
        obtain ⟨_, _, _, _, hc, _⟩ := ha 0 (by omega)
        have hspot : spot = none := by simpa [Addr.add] using World.cell?_spot hc
        subst hspot
        have hb : b < w.heap.size := World.block_lt_of_cell? w _ hc |> fun h => by simpa [Addr.add] using h
        have hadd : ∀ n, (⟨b, off, none⟩ : Addr).add n = ⟨b, off + n, none⟩ := fun n => by unfold Addr.add; split <;> simp_all
        have hex : ∀ i : Nat, ∃ q : Int × Int × Int × Int, i < len → w.cell? ⟨b, off + i * 4, none⟩ = some (.int .u8 q.1) ∧ w.cell? ⟨b, off + i * 4 + 1, none⟩ = some (.int .i64 q.2.1) ∧ w.cell? ⟨b, off + i * 4 + 2, none⟩ = some (.int .i64 q.2.2.1) ∧ w.cell? ⟨b, off + i * 4 + 3, none⟩ = some (.int .i64 q.2.2.2) ∧ 0 ≤ q.1 ∧ q.1 ≤ 255 := fun i => by
          by_cases hi : i < len
          · obtain ⟨kd, k, x, y, e0, e1, e2, e3, e4⟩ := ha i hi
            rw [hadd] at e0 e1 e2 e3
            exact ⟨(kd, k, x, y), fun _ => ⟨e0, e1, e2, e3, e4⟩⟩
          · exact ⟨(0, 0, 0, 0), fun h => absurd h hi⟩
        obtain ⟨kd, hk⟩ : ∃ kd : Nat → Int × Int × Int × Int, ∀ i, i < len → w.cell? ⟨b, off + i * 4, none⟩ = some (.int .u8 (kd i).1) ∧ w.cell? ⟨b, off + i * 4 + 1, none⟩ = some (.int .i64 (kd i).2.1) ∧ w.cell? ⟨b, off + i * 4 + 2, none⟩ = some (.int .i64 (kd i).2.2.1) ∧ w.cell? ⟨b, off + i * 4 + 3, none⟩ = some (.int .i64 (kd i).2.2.2) ∧ 0 ≤ (kd i).1 ∧ (kd i).1 ≤ 255 :=
          ⟨fun i => Classical.choose (hex i), fun i => Classical.choose_spec (hex i)⟩
        exact plays_few b off len cap (fun i => (kd i).1) (fun i => (kd i).2.1) (fun i => (kd i).2.2.1) (fun i => (kd i).2.2.2) at_ w (by omega)
          ⟨fun i hi => (hk i hi).1, fun i hi => (hk i hi).2.1, fun i hi => (hk i hi).2.2.1, fun i hi => (hk i hi).2.2.2.1, fun i hi => (hk i hi).2.2.2.2⟩ hb

section
variable {H : Type} {enc : TypeId × Value → H} {w : World} {base : Nat} {spare : Nat → Bool} {held : Bool}
theorem acts_open {fuel : Nat} {a : Option Addr} {len cap : Nat} {x : DataW H × List MemPlace} (h : DataW.trod enc Try.prog w base spare held fuel 22 [.slice a len cap] = some x) : IsActs w a len := by
  rcases open_slice Try.underlying22 h with ⟨hcs, _⟩ | ⟨a', len', cap', m, n, D, Pl, hcs, _, hl, hm, hmm, _, hx⟩
  · simp at hcs
    obtain ⟨rfl, rfl, rfl⟩ := hcs
    exact ⟨by simp, .inl rfl⟩
  · simp at hcs
    obtain ⟨rfl, rfl, rfl⟩ := hcs
    refine ⟨by omega, .inr ⟨_, rfl, fun i hi => ?_⟩⟩
    have him : i < m := by rw [hmm]; split <;> omega
    obtain ⟨cs, hc, ht⟩ := hx i him
    have h35 : Try.prog.cellsOf 35 = 4 := by kernel_rfl
    rw [h35] at hc
    obtain ⟨xs, n', _, _, _, _, hf⟩ := DataW.trod_struct Try.underlying35 ht
    obtain ⟨_, hlen, hat⟩ := World.cells?_some hc
    match cs, hlen with
    | [c0, c1, c2, c3], _ =>
      have c5 : Try.prog.cellsOf 5 = 1 := by kernel_rfl
      have c3' : Try.prog.cellsOf 3 = 1 := by kernel_rfl
      have c2' : Try.prog.cellsOf 2 = 1 := by kernel_rfl
      have f0 : DataW.trod enc Try.prog w base spare held n' 5 (([c0, c1, c2, c3].drop 0).take (Try.prog.cellsOf 5)) = xs[0]? := hf 0 _ rfl
      have f1 : DataW.trod enc Try.prog w base spare held n' 3 (([c0, c1, c2, c3].drop 1).take (Try.prog.cellsOf 3)) = xs[1]? := hf 1 _ rfl
      have f2 : DataW.trod enc Try.prog w base spare held n' 2 (([c0, c1, c2, c3].drop 2).take (Try.prog.cellsOf 2)) = xs[2]? := hf 2 _ rfl
      have f3 : DataW.trod enc Try.prog w base spare held n' 2 (([c0, c1, c2, c3].drop 3).take (Try.prog.cellsOf 2)) = xs[3]? := hf 3 _ rfl
      rw [c5] at f0
      rw [c3'] at f1
      rw [c2'] at f2 f3
      have hxl : xs.length = 4 := by assumption
      rw [List.getElem?_eq_getElem (by omega)] at f0 f1 f2 f3
      obtain ⟨v0, e0, _, w0⟩ := DataW.trod_int Try.underlying5 f0
      obtain ⟨v1, e1, _, _⟩ := DataW.trod_int Try.underlying3 f1
      obtain ⟨v2, e2, _, _⟩ := DataW.trod_int Try.underlying2 f2
      obtain ⟨v3, e3, _, _⟩ := DataW.trod_int Try.underlying2 f3
      simp at e0 e1 e2 e3
      subst e0 e1 e2 e3
      have a0 := hat 0 (by omega)
      have a1 := hat 1 (by omega)
      have a2 := hat 2 (by omega)
      have a3 := hat 3 (by omega)
      have hb := bounds_u8 w0
      rw [Go.Deep.add_add] at a0 a1 a2 a3
      exact ⟨v0, v1, v2, v3, by simpa using a0, by simpa using a1, by simpa using a2, by simpa using a3, hb.1, hb.2⟩
end

set_option maxRecDepth 100000 in
theorem lifted (os : Os) (started : os.Started) (H : Type) (enc : TypeId × Value → H) :
    ReturnsInHanded {} Try.checked os 3 .any (Rows.tallyPlaysSpec.pre6 enc Try.prog Try.f3 Rows.tallyPlaysRow.domain false) (Rows.tallyPlaysSpec.post enc Try.prog Try.f3 false true false false) := by
  refine returnsInHanded_of_change (C := Try.checked) own started (by kernel_rfl) Try.func3
    (ChangeSpec.witness6 (enc := enc) (C := Try.checked) false ⟨#[], #[.slice none 0 0, .int .i64 0], []⟩ 8 (by kernel_rfl) (by kernel_rfl) (by kernel_rfl) (by kernel_rfl)) ?_
  intro W base args ds gs before hval0 hW hcnd _
  have hval : ∀ (j : Nat) t v, Try.f3.params[j]? = some t → args[j]? = some v → Value.okWide Try.prog W .any base t v := hval0
  have hW' := hW
  obtain ⟨p, q, hA0, hV, rfl, hfz, hnd⟩ := hW
  have hA : DataW.TrodAll enc Try.prog W 0 (fun _ => true) true Try.f3.params.toList args.toList ds p := hA0
  rw [Try.params3] at hA hval
  obtain ⟨v0, v1, d0, d1, p0, p1, rfl, rfl, rfl, h0, h1⟩ := trodAll_two hA
  obtain ⟨rfl, rfl⟩ := trodVars_none hV
  obtain ⟨a0, len0, cap0, rfl⟩ := okWide_slice Try.underlying22 (hval 0 22 v0 rfl rfl)
  have k0 := h0
  have lt0 : ∀ x ∈ p0, x.block < W.heap.size := by obtain ⟨m, hm⟩ := k0; exact DataW.trod_lt m _ _ _ hm
  have w0 : IsActs W a0 len0 := by
    obtain ⟨fuel, hf⟩ := h0
    exact acts_open (by simpa [Value.cells] using hf)
  obtain ⟨a1, rfl, rfl, rfl, w1⟩ := open_int Try.underlying3 (hval 1 3 v1 rfl rfl) h1
  clear hA0 hval0
  refine (walk a0 len0 cap0 a1 W w0).mono fun e W' ⟨he, bel⟩ => ?_
  subst he
  exact ⟨_, rfl, _, _, _, [], _, [], hW', trodAll_mk1 (shut_bool Try.underlying4 _), (trodAll_cons_mk (Below.trod laidOut (by kernel_rfl) (of_decide_eq_true (by kernel_rfl)) k0 bel lt0) (trodAll_cons_mk (shut_int Try.underlying3 w1) trodAll_mk0)), rfl, bel.frame _, fun h => by cases h⟩

theorem tally_holds : Rows.TallyPlaysSaid :=
  OpenClaim.holds_of_wide 3 Try.f3 rfl rfl rfl rfl rfl rfl rfl ⟨rfl, rfl, rfl, rfl, rfl⟩ rfl rfl rfl rfl rfl (by kernel_rfl) Try.func3 (by kernel_rfl)
    (of_decide_eq_true (by kernel_rfl)) (by unfold Func.isWrapper; rw [if_neg (of_decide_eq_false (by kernel_rfl))]; exact ⟨rfl, rfl⟩)
    (fun os started H enc _ => lifted os started H enc)
#print axioms tally_holds
end Go.Proofs.Ytcaekploljpmeaa
