import Derived.Test.YtcaekploljpmeaaSum
namespace Go.Proofs.Ytcaekploljpmeaa
open Go.RowKit

theorem run_forIn_same {P : Program} {β : Type} (b : β) (f : Nat → β → Sem (ForInStep β)) (w : World) : ∀ l : List Nat, (∀ j ∈ l, (f j b).run P w = .ok (.yield b) w) → (forIn l b f : Sem β).run P w = .ok b w := by
  intro l
  induction l with
  | nil => intro _; rfl
  | cons j l ih =>
    intro h
    rw [List.forIn_cons, Sem.run_bind, h j (by simp), Result.andThen_ok]
    exact ih fun i hi => h i (by simp [hi])

theorem run_equal_row {P : Program} {T : TypeId} (hT : P.underlying T = some (.array 16 2)) (h2 : (P.info? 2).map (·.size) = some 1) (hu2 : P.underlying 2 = some (.int .i64)) (xs : List Int) (hl : xs.length = 16) (d : Nat) (w : World) :
    (Op.equalIn (d + 2) T (.agg (enc xs)) (.agg (enc xs))).run P w = .ok true w := by
  obtain ⟨i, hi, hs⟩ := Option.map_eq_some_iff.1 h2
  unfold Op.equalIn
  simp only [Sem.run_bind, run_underlying hT, Result.andThen_ok, sizeOf, typeInfo]
  simp [program, Sem.run, hi, hs]
  rw [run_forIn_same]
  · rfl
  · intro j hj
    have hj16 : j < 16 := by simp [List.mem_range'] at hj; omega
    have hg := enc_get xs j (by omega)
    have hp : (Go.part 2 (enc xs) j).run P w = .ok (.int .i64 (xs.getD j 0)) w := by
      simp [Go.part, isAgg, Sem.run_bind, run_underlying hu2, hg]
    rw [Sem.run_bind, hp, Result.andThen_ok, Sem.run_bind, hp, Result.andThen_ok, Sem.run_bind, run_equalIn_int _ _ _ _ _ _ _ hu2]
    simp

theorem run_neq_row {o : Oper} {ρ : Operand → Value} (x y : Operand) (ho : o.op = .binOp .neq 32 x y 32) (xs : List Int) (hl : xs.length = 16) (hx : ρ x = .agg (enc xs)) (hy : ρ y = .agg (enc xs)) (w : World) :
    (execOp ρ o).run Try.prog w = .ok (.value (.bool false)) w := by
  unfold execOp
  simp only [ho, hx, hy, Sem.run_bind]
  rw [run_eqGuard_agg _ _ _ _ _ _ _ (by kernel_rfl), Result.andThen_ok, run_neq_struct, run_equal_row (by kernel_rfl) (by kernel_rfl) (by kernel_rfl) xs hl 9998 w]
  rfl
end Go.Proofs.Ytcaekploljpmeaa
