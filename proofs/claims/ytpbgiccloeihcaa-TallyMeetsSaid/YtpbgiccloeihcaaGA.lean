import Derived.Test.YtpbgiccloeihcaaE
open Go Go.Tl
set_option linter.unusedSimpArgs false
set_option linter.unusedVariables false
set_option linter.unnecessarySimpa false
namespace Go.Proofs.Ytpbgiccloeihcaa

instance : Inhabited (Bool × List Int) := ⟨(false, [])⟩

theorem say_tree (xs : List M) (h : Tree (.pair .bool (.pair (.sl (.int .i64)) .unit)) xs) : ∃ s : Bool × List Int, xs = sy s := by
  obtain ⟨a, b, rfl, ⟨x, rfl⟩, c, d, rfl, h1, h2⟩ := h
  obtain ⟨l, rfl, _, _⟩ := tree_ints h1
  rw [show d = [] from h2]
  exact ⟨(x, l), rfl⟩

theorem says_length (w : Int) (nodes : List Int) : ∀ said : List Int, (says w nodes said).length = said.length := by
  induction nodes with
  | nil => intro _; rfl
  | cons n nodes ih => intro s; rw [says, List.foldl_cons]; exact (ih _).trans (put_length _ _ _)
theorem says_take (w : Int) (nodes said : List Int) (j : Nat) (h : j < nodes.length) : says w (nodes.take (j + 1)) said = put w (says w (nodes.take j) said) (rd nodes j) := by
  rw [List.take_succ_eq_append_getElem h, says, says, List.foldl_append, rd_lt h]; rfl


theorem whr_small (k : Int) (u : List Int) (h : u.length ≤ 8) : (whr k u).length ≤ 1000000 := by
  have := whr_length k u
  have := cnt_hi k u
  omega

theorem put_cnt (w : Int) (hw : w = 1 ∨ w = 2) (s : List Int) (n : Int) : cnt 1 s ≤ cnt 1 (put w s n) ∧ cnt 1 (put w s n) + cnt 0 (put w s n) ≤ cnt 1 s + cnt 0 s ∧ cnt 0 (put w s n) + cnt 1 (put w s n) + cnt 2 (put w s n) = cnt 0 s + cnt 1 s + cnt 2 s := by
  by_cases h : n < 0 ∨ (s.length : Int) ≤ n ∨ rd s n.toNat ≠ 0
  · rw [put_no _ _ _ h]; omega
  · have h1 : 0 ≤ n := by omega
    have h2 : n < s.length := by omega
    have h3 : rd s n.toNat = 0 := by
      by_cases e : rd s n.toNat = 0
      · exact e
      · exact absurd (.inr (.inr e)) h
    rw [put_yes _ _ _ h1 h2 h3]
    have e0 := cnt_set 0 w s n.toNat (by omega) h3
    have e1 := cnt_set 1 w s n.toNat (by omega) h3
    have e2 := cnt_set 2 w s n.toNat (by omega) h3
    rcases hw with rfl | rfl <;> simp at e0 e1 e2 <;> omega
theorem says_cnt (w : Int) (hw : w = 1 ∨ w = 2) (nodes : List Int) : ∀ s : List Int, cnt 1 s ≤ cnt 1 (says w nodes s) ∧ cnt 1 (says w nodes s) + cnt 0 (says w nodes s) ≤ cnt 1 s + cnt 0 s ∧
    cnt 0 (says w nodes s) + cnt 1 (says w nodes s) + cnt 2 (says w nodes s) = cnt 0 s + cnt 1 s + cnt 2 s := by
  induction nodes with
  | nil => intro s; exact ⟨Int.le_refl _, Int.le_refl _, rfl⟩
  | cons n nodes ih =>
    intro s
    have h1 := put_cnt w hw s n
    have h2 := ih (put w s n)
    have e : says w (n :: nodes) s = says w nodes (put w s n) := rfl
    rw [e]; omega
theorem wh_or (b : Bool) : wh b = 1 ∨ wh b = 2 := by cases b <;> simp [wh]
end Go.Proofs.Ytpbgiccloeihcaa
