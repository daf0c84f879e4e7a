/- Summaries: what the library's contracts say of a function, as the abstract interpreter reads it. -/
import Derived.Test.YtcjfijmbdoiaiaaGreatDoorRbAi24
import Derived.Lib.RepeatB
set_option linter.unusedSimpArgs false
set_option linter.unusedVariables false
namespace Go.Ai
open Go.RowKit

section
variable {P : Program} {μ : Mu} {s : AS} {w w' : World}

/-- Nothing of what was there has turned. -/
theorem Stp.below (hR : Rel μ s w) (h : Below w.heap.size w w') : Stp μ s w μ s w' where
  ext := .refl μ
  rel := {
    blk := fun b o hb => by
      obtain ⟨i, h1, h2⟩ := hR.blk b o hb
      exact ⟨i, h1, h2.of_heap (h.block _ (hR.inb hb h1))⟩
    sep := hR.sep
    fresh := hR.fresh }
  keep := fun c hc _ => h.block c hc
  ws := fun _ hc => .inl hc
  us := fun _ hc => .inl hc
  mnew := fun _ h _ => h
  dom := fun _ h => .inl h
  nx := Nat.le_refl _
  size := h.size
  os := h.os
  out := h.output
  tape := h.tape

/-- strings.Repeat. -/
def sumRepeat : ASum
  | [.str t, .int .i64 n], s => if 0 ≤ n ∧ n ≤ 1099511627776 ∧ t.length * n.toNat ≤ 1099511627776 then some (.str (Lib.repeatL t n.toNat), s) else none
  | _, _ => none

theorem sumRepeat_ok {f : FuncId} (hb : goBody P f = true)
    (h : ∀ (t : ByteArray) (c : Nat) (w : World), c ≤ 9223372036854775807 → t.size * c ≤ 140737488355328 →
      Calls P f #[.string t, .int .i64 c] w fun e w' => e = .returned (.string ⟨(Lib.repeatL t.data.toList c).toArray⟩) ∧ Below w.heap.size w w') : SumOK P f sumRepeat := by
  intro args s r s' hs
  refine ⟨hb, fun μ w args' _ hv hR => ?_⟩
  unfold sumRepeat at hs
  split at hs
  · rename_i t n
    split at hs
    · rename_i hc
      obtain ⟨h0, h1, h2⟩ := hc
      simp only [Option.some.injEq, Prod.mk.injEq] at hs
      obtain ⟨rfl, rfl⟩ := hs
      obtain ⟨u, rfl, hu⟩ : ∃ u : ByteArray, args' = #[.string u, .int .i64 n] ∧ u.data.toList = t := by
        obtain ⟨l⟩ := args'
        cases hv with
        | cons _ _ _ _ ha hl =>
          cases hl with
          | cons _ _ _ _ hb hl =>
            cases hl
            cases ha
            cases hb
            exact ⟨_, rfl, by assumption⟩
      have hsz := sz_data hu
      have hn : (n.toNat : Int) = n := Int.toNat_of_nonneg h0
      have hcall := h u n.toNat w (by omega) (by rw [hsz]; omega)
      rw [hn, hu] at hcall
      exact hcall.mono fun e w' ⟨he, hbl⟩ => ⟨μ, _, he, .str _ _ rfl, Stp.below hR hbl⟩
    · cases hs
  · cases hs

end
end Go.Ai
