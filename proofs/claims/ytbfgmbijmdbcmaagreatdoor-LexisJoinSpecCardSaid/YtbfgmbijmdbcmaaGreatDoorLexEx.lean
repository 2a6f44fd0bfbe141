/- The lexer's values at the chapter's examples. -/
import Derived.Test.YtbfgmbijmdbcmaaGreatDoorLexSpec
namespace Go.Proofs.YtbfgmbijmdbcmaaGreatDoor
set_option linter.unusedVariables false
set_option linter.unusedSimpArgs false

theorem items_step (s r : List UInt8) (i : Item) (h : s ≠ []) (hi : stepItem s = i) (hr : s.drop i.len = r) : items s = i :: items r := by
  subst hi hr
  exact items_cons s h

theorem lex_ex1 : lex [97, 62, 61, 45, 53] = ([⟨1, [97], 0⟩, ⟨4, [62, 61], 1⟩, ⟨2, [45, 53], 3⟩, ⟨5, [], 5⟩], []) := by
  unfold lex
  rw [items_step _ [62, 61, 45, 53] ⟨1, [97], 1⟩ (by simp) rfl rfl, items_step _ [45, 53] ⟨4, [62, 61], 2⟩ (by simp) rfl rfl, items_step _ [] ⟨2, [45, 53], 2⟩ (by simp) rfl rfl, items_nil]
  rfl
theorem lex_ex2 : lex [48, 48, 55, 37, 36] = ([⟨5, [], 5⟩], [⟨0, 60⟩]) := by
  unfold lex
  rw [items_step _ [37, 36] ⟨0, [], 3⟩ (by simp) rfl rfl, items_step _ [36] ⟨0, [], 1⟩ (by simp) rfl rfl, items_step _ [] ⟨0, [], 1⟩ (by simp) rfl rfl, items_nil]
  rfl
theorem lex_ex3 : lex [34, 97, 92, 34, 98, 34] = ([⟨3, [97, 34, 98], 0⟩, ⟨5, [], 6⟩], []) := by
  unfold lex
  rw [items_step _ [] ⟨3, [97, 34, 98], 6⟩ (by simp) rfl rfl, items_nil]
  rfl
theorem lex_ex4 : lex [34, 97] = ([⟨1, [97], 1⟩, ⟨5, [], 2⟩], [⟨0, 60⟩]) := by
  unfold lex
  rw [items_step _ [97] ⟨0, [], 1⟩ (by simp) rfl rfl, items_step _ [] ⟨1, [97], 1⟩ (by simp) rfl rfl, items_nil]
  rfl
end Go.Proofs.YtbfgmbijmdbcmaaGreatDoor
