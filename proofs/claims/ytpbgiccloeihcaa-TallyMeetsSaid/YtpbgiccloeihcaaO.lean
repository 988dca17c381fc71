import Derived.Test.YtpbgiccloeihcaaGA
open Go Go.Tl
set_option linter.unusedSimpArgs false
set_option linter.unusedVariables false
set_option linter.unnecessarySimpa false
namespace Go.Proofs.Ytpbgiccloeihcaa

/-- Who has said yes was told so. -/
theorem says_mem (nodes : List Int) : ∀ (s : List Int) (k : Nat), rd (says 1 nodes s) k = 1 → rd s k = 1 ∨ (k : Int) ∈ nodes := by
  induction nodes with
  | nil => intro s k h; exact .inl h
  | cons n nodes ih =>
    intro s k h
    have e : says 1 (n :: nodes) s = says 1 nodes (put 1 s n) := rfl
    rw [e] at h
    rcases ih _ k h with h1 | h1
    · by_cases hn : n < 0 ∨ (s.length : Int) ≤ n ∨ rd s n.toNat ≠ 0
      · rw [put_no _ _ _ hn] at h1; exact .inl h1
      · unfold put at h1
        rw [if_neg hn] at h1
        by_cases e2 : n.toNat = k
        · exact .inr (List.mem_cons.2 (.inl (by omega)))
        · left
          simp only [rd, List.getD_eq_getElem?_getD] at h1 ⊢
          rwa [List.getElem?_set_ne e2] at h1
    · exact .inr (List.mem_cons_of_mem _ h1)

theorem both (n : Nat) : ∀ (s t : List Int), s.length = n → t.length = n → (n : Int) < cnt 1 s + cnt 1 t → ∃ k, k < n ∧ rd s k = 1 ∧ rd t k = 1 := by
  induction n with
  | zero =>
    intro s t hs ht h
    have := cnt_hi 1 s
    have := cnt_hi 1 t
    omega
  | succ n ih =>
    intro s t hs ht h
    match s, t, hs, ht with
    | x :: s, y :: t, hs, ht =>
      simp only [List.length_cons] at hs ht
      have c1 : ∀ (x : Int) (s : List Int), cnt 1 (x :: s) = cnt 1 s + if x = 1 then 1 else 0 := fun x s => by
        unfold cnt
        rw [List.countP_cons]
        by_cases h : x = 1 <;> simp [h]
      rw [c1, c1] at h
      by_cases h1 : x = 1 ∧ y = 1
      · exact ⟨0, by omega, h1.1, h1.2⟩
      · have : (if x = 1 then (1 : Int) else 0) + (if y = 1 then 1 else 0) ≤ 1 := by split <;> split <;> first | omega | (exfalso; exact h1 ⟨‹_›, ‹_›⟩)
        obtain ⟨k, h2, h3, h4⟩ := ih s t (by omega) (by omega) (by omega)
        exact ⟨k + 1, by omega, h3, h4⟩

theorem common (nodes write read : Int) (a b : List Int) (h1 : 1 ≤ nodes) (h8 : nodes ≤ 8) (hwr : nodes < write + read) (ha : write ≤ cnt 1 (says 1 a (none0 nodes))) (hb : read ≤ cnt 1 (says 1 b (none0 nodes))) :
    ∃ i j, i < a.length ∧ j < b.length ∧ rd a i = rd b j ∧ 0 ≤ rd a i ∧ rd a i < nodes := by
  have hm : (many nodes : Int) = nodes := by unfold many; omega
  have hl := none0_length nodes
  obtain ⟨k, h2, h3, h4⟩ := both (many nodes) (says 1 a (none0 nodes)) (says 1 b (none0 nodes)) (by rw [says_length, hl]) (by rw [says_length, hl]) (by omega)
  have z : ¬ rd (none0 nodes) k = 1 := by
    rw [rd_lt (by omega)]
    simp [none0]
  have ka := (says_mem a _ k h3).resolve_left z
  have kb := (says_mem b _ k h4).resolve_left z
  obtain ⟨i, hi, e1⟩ := List.mem_iff_getElem.1 ka
  obtain ⟨j, hj, e2⟩ := List.mem_iff_getElem.1 kb
  exact ⟨i, j, hi, hj, by rw [rd_lt hi, rd_lt hj, e1, e2], by rw [rd_lt hi, e1]; omega, by rw [rd_lt hi, e1]; omega⟩

set_option maxRecDepth 100000 in
set_option maxHeartbeats 4000000 in
theorem lawMeets (nodes write read : Int) (a b : List Int) : Con Try.prog 6 [int nodes, int write, int read, .sl false (a.map int) a.length, .sl false (b.map int) b.length] [] fun m _ => m = .v (.bool true) := by
  have h8 := many_le nodes
  have hn0 := none0_length nodes
  refine Con.by Try.func6 en6 rfl (by simp [Try.ntmps6]) fun R hR hF hU => ?_; rw [Try.ntmps6]
  repeat' (first
    | refine WpC.seqC lv6 rfl ?_
    | refine WpC.blockC rfl ?_
    | (refine WpC.reg rfl rfl ?_; simp -implicitDefEqProofs -dsimp [-List.map_set, -List.map_append, -List.map_replicate, fold_int, fold_ints, fold_u8, fold_u8s, lv6])
    | (refine WpC.regP rfl (by decide +kernel) fol (by decide +kernel) (by decide +kernel) ?_; simp -implicitDefEqProofs -dsimp [-List.map_set, -List.map_append, -List.map_replicate, fold_int, fold_ints, fold_u8, fold_u8s, lv6])
    | (refine WpC.regI dr6 rfl rfl (by decide +kernel) fol ?_; simp -implicitDefEqProofs -dsimp [dr6, -List.map_set, -List.map_append, -List.map_replicate, fold_int, fold_ints, fold_u8, fold_u8s, lv6])
    | (refine WpC.regM dm6 rfl rfl (by decide +kernel) fol ?_; simp -implicitDefEqProofs -dsimp [dm6, -List.map_set, -List.map_append, -List.map_replicate, fold_int, fold_ints, fold_u8, fold_u8s, lv6])
    | (refine WpC.regQ dq6 rfl rfl (by decide +kernel) fol ?_; simp -implicitDefEqProofs -dsimp [dq6, -List.map_set, -List.map_append, -List.map_replicate, fold_int, fold_ints, fold_u8, fold_u8s, lv6])
    | (refine WpC.skipC rfl ?_; try simp -implicitDefEqProofs -dsimp [-List.map_set, -List.map_append, -List.map_replicate, fold_int, fold_ints, fold_u8, fold_u8s, lv6])
    | (refine WpC.retC rfl ?_; try simp -implicitDefEqProofs -dsimp [-List.map_set, -List.map_append, -List.map_replicate, fold_int, fold_ints, fold_u8, fold_u8s, lv6])
    | (refine WpC.exitC rfl ?_; try simp -implicitDefEqProofs -dsimp [-List.map_set, -List.map_append, -List.map_replicate, fold_int, fold_ints, fold_u8, fold_u8s, lv6])
    | (refine WpC.condK rfl ?_; simp -implicitDefEqProofs -dsimp [-List.map_set, -List.map_append, -List.map_replicate, fold_int, fold_ints, fold_u8, fold_u8s, lv6])
    | with_reducible refine And.intro (fun _ => ?_) (fun _ => ?_)
    | (with_reducible refine And.intro (by omega) ?_))
  refine CallX.by4 (alive) false [] 6 (by simp) (by simp) (by simp) (by simp -implicitDefEqProofs [-List.map_set, -List.map_append, -List.map_replicate, fold_int, fold_ints, fold_u8, fold_u8s, rs, rsOb, List.idxOf?_cons]) (by simp -implicitDefEqProofs [-List.map_set, -List.map_append, -List.map_replicate, fold_int, fold_ints, fold_u8, fold_u8s, rs, rsOb, List.idxOf?_cons]) ?_; rintro m T' ⟨rfl, rfl⟩ -; simp -implicitDefEqProofs -dsimp [-List.map_set, -List.map_append, -List.map_replicate, fold_int, fold_ints, fold_u8, fold_u8s, frOb, obMp, setAll, setOb, gMap, lv6]
  repeat' (first
    | refine WpC.seqC lv6 rfl ?_
    | refine WpC.blockC rfl ?_
    | (refine WpC.reg rfl rfl ?_; simp -implicitDefEqProofs -dsimp [-List.map_set, -List.map_append, -List.map_replicate, fold_int, fold_ints, fold_u8, fold_u8s, lv6])
    | (refine WpC.regP rfl (by decide +kernel) fol (by decide +kernel) (by decide +kernel) ?_; simp -implicitDefEqProofs -dsimp [-List.map_set, -List.map_append, -List.map_replicate, fold_int, fold_ints, fold_u8, fold_u8s, lv6])
    | (refine WpC.regI dr6 rfl rfl (by decide +kernel) fol ?_; simp -implicitDefEqProofs -dsimp [dr6, -List.map_set, -List.map_append, -List.map_replicate, fold_int, fold_ints, fold_u8, fold_u8s, lv6])
    | (refine WpC.regM dm6 rfl rfl (by decide +kernel) fol ?_; simp -implicitDefEqProofs -dsimp [dm6, -List.map_set, -List.map_append, -List.map_replicate, fold_int, fold_ints, fold_u8, fold_u8s, lv6])
    | (refine WpC.regQ dq6 rfl rfl (by decide +kernel) fol ?_; simp -implicitDefEqProofs -dsimp [dq6, -List.map_set, -List.map_append, -List.map_replicate, fold_int, fold_ints, fold_u8, fold_u8s, lv6])
    | (refine WpC.skipC rfl ?_; try simp -implicitDefEqProofs -dsimp [-List.map_set, -List.map_append, -List.map_replicate, fold_int, fold_ints, fold_u8, fold_u8s, lv6])
    | (refine WpC.retC rfl ?_; try simp -implicitDefEqProofs -dsimp [-List.map_set, -List.map_append, -List.map_replicate, fold_int, fold_ints, fold_u8, fold_u8s, lv6])
    | (refine WpC.exitC rfl ?_; try simp -implicitDefEqProofs -dsimp [-List.map_set, -List.map_append, -List.map_replicate, fold_int, fold_ints, fold_u8, fold_u8s, lv6])
    | (refine WpC.condK rfl ?_; simp -implicitDefEqProofs -dsimp [-List.map_set, -List.map_append, -List.map_replicate, fold_int, fold_ints, fold_u8, fold_u8s, lv6])
    | with_reducible refine And.intro (fun _ => ?_) (fun _ => ?_)
    | (with_reducible refine And.intro (by omega) ?_))
  all_goals first
    | (refine (hR _ _ ?_).1; simp -implicitDefEqProofs -dsimp [-List.map_set, -List.map_append, -List.map_replicate, fold_int, fold_ints, fold_u8, fold_u8s, lv6, Try.f6, envL]; done)
    | skip
  rename_i q1 q2 q3 q4 q5 q6 q7 q8 q9
  have w1 : IntKind.i64.wrap (write + read) = write + read := by rw [i64w] <;> omega
  rw [w1] at q7
  obtain ⟨ic, jc, hic, hjc, hcm⟩ : ∃ i j, True ∧ True ∧ (write ≤ cnt 1 (says 1 a (none0 nodes)) → read ≤ cnt 1 (says 1 b (none0 nodes)) → i < a.length ∧ j < b.length ∧ rd a i = rd b j ∧ 0 ≤ rd a i ∧ rd a i < nodes) := by
    by_cases h1 : write ≤ cnt 1 (says 1 a (none0 nodes))
    · by_cases h2 : read ≤ cnt 1 (says 1 b (none0 nodes))
      · obtain ⟨i, j, h⟩ := common nodes write read a b (by omega) (by omega) (by omega) h1 h2
        exact ⟨i, j, trivial, trivial, fun _ _ => h⟩
      · exact ⟨0, 0, trivial, trivial, fun _ h => absurd h h2⟩
    · exact ⟨0, 0, trivial, trivial, fun h => absurd h h1⟩
  refine CallX.by4 (New nodes write) false [] 6 (by simp) (by simp) (by simp) (by simp -implicitDefEqProofs [-List.map_set, -List.map_append, -List.map_replicate, fold_int, fold_ints, fold_u8, fold_u8s, rs, rsOb, List.idxOf?_cons]) (by simp -implicitDefEqProofs [-List.map_set, -List.map_append, -List.map_replicate, fold_int, fold_ints, fold_u8, fold_u8s, rs, rsOb, List.idxOf?_cons]) ?_; rintro m T' ⟨rfl, rfl⟩ -; simp -implicitDefEqProofs -dsimp [-List.map_set, -List.map_append, -List.map_replicate, fold_int, fold_ints, fold_u8, fold_u8s, frOb, obMp, setAll, setOb, gMap, lv6]
  repeat' (first
    | refine WpC.seqC lv6 rfl ?_
    | refine WpC.blockC rfl ?_
    | (refine WpC.reg rfl rfl ?_; simp -implicitDefEqProofs -dsimp [-List.map_set, -List.map_append, -List.map_replicate, fold_int, fold_ints, fold_u8, fold_u8s, lv6])
    | (refine WpC.regP rfl (by decide +kernel) fol (by decide +kernel) (by decide +kernel) ?_; simp -implicitDefEqProofs -dsimp [-List.map_set, -List.map_append, -List.map_replicate, fold_int, fold_ints, fold_u8, fold_u8s, lv6])
    | (refine WpC.regI dr6 rfl rfl (by decide +kernel) fol ?_; simp -implicitDefEqProofs -dsimp [dr6, -List.map_set, -List.map_append, -List.map_replicate, fold_int, fold_ints, fold_u8, fold_u8s, lv6])
    | (refine WpC.regM dm6 rfl rfl (by decide +kernel) fol ?_; simp -implicitDefEqProofs -dsimp [dm6, -List.map_set, -List.map_append, -List.map_replicate, fold_int, fold_ints, fold_u8, fold_u8s, lv6])
    | (refine WpC.regQ dq6 rfl rfl (by decide +kernel) fol ?_; simp -implicitDefEqProofs -dsimp [dq6, -List.map_set, -List.map_append, -List.map_replicate, fold_int, fold_ints, fold_u8, fold_u8s, lv6])
    | (refine WpC.skipC rfl ?_; try simp -implicitDefEqProofs -dsimp [-List.map_set, -List.map_append, -List.map_replicate, fold_int, fold_ints, fold_u8, fold_u8s, lv6])
    | (refine WpC.retC rfl ?_; try simp -implicitDefEqProofs -dsimp [-List.map_set, -List.map_append, -List.map_replicate, fold_int, fold_ints, fold_u8, fold_u8s, lv6])
    | (refine WpC.exitC rfl ?_; try simp -implicitDefEqProofs -dsimp [-List.map_set, -List.map_append, -List.map_replicate, fold_int, fold_ints, fold_u8, fold_u8s, lv6])
    | (refine WpC.condK rfl ?_; simp -implicitDefEqProofs -dsimp [-List.map_set, -List.map_append, -List.map_replicate, fold_int, fold_ints, fold_u8, fold_u8s, lv6])
    | with_reducible refine And.intro (fun _ => ?_) (fun _ => ?_)
    | (with_reducible refine And.intro (by omega) ?_))
  refine CallX.by4 (New nodes read) false [] 6 (by simp) (by simp) (by simp) (by simp -implicitDefEqProofs [-List.map_set, -List.map_append, -List.map_replicate, fold_int, fold_ints, fold_u8, fold_u8s, rs, rsOb, List.idxOf?_cons]) (by simp -implicitDefEqProofs [-List.map_set, -List.map_append, -List.map_replicate, fold_int, fold_ints, fold_u8, fold_u8s, rs, rsOb, List.idxOf?_cons]) ?_; rintro m T' ⟨rfl, rfl⟩ -; simp -implicitDefEqProofs -dsimp [-List.map_set, -List.map_append, -List.map_replicate, fold_int, fold_ints, fold_u8, fold_u8s, frOb, obMp, setAll, setOb, gMap, lv6]
  repeat' (first
    | refine WpC.seqC lv6 rfl ?_
    | refine WpC.blockC rfl ?_
    | (refine WpC.reg rfl rfl ?_; simp -implicitDefEqProofs -dsimp [-List.map_set, -List.map_append, -List.map_replicate, fold_int, fold_ints, fold_u8, fold_u8s, lv6])
    | (refine WpC.regP rfl (by decide +kernel) fol (by decide +kernel) (by decide +kernel) ?_; simp -implicitDefEqProofs -dsimp [-List.map_set, -List.map_append, -List.map_replicate, fold_int, fold_ints, fold_u8, fold_u8s, lv6])
    | (refine WpC.regI dr6 rfl rfl (by decide +kernel) fol ?_; simp -implicitDefEqProofs -dsimp [dr6, -List.map_set, -List.map_append, -List.map_replicate, fold_int, fold_ints, fold_u8, fold_u8s, lv6])
    | (refine WpC.regM dm6 rfl rfl (by decide +kernel) fol ?_; simp -implicitDefEqProofs -dsimp [dm6, -List.map_set, -List.map_append, -List.map_replicate, fold_int, fold_ints, fold_u8, fold_u8s, lv6])
    | (refine WpC.regQ dq6 rfl rfl (by decide +kernel) fol ?_; simp -implicitDefEqProofs -dsimp [dq6, -List.map_set, -List.map_append, -List.map_replicate, fold_int, fold_ints, fold_u8, fold_u8s, lv6])
    | (refine WpC.skipC rfl ?_; try simp -implicitDefEqProofs -dsimp [-List.map_set, -List.map_append, -List.map_replicate, fold_int, fold_ints, fold_u8, fold_u8s, lv6])
    | (refine WpC.retC rfl ?_; try simp -implicitDefEqProofs -dsimp [-List.map_set, -List.map_append, -List.map_replicate, fold_int, fold_ints, fold_u8, fold_u8s, lv6])
    | (refine WpC.exitC rfl ?_; try simp -implicitDefEqProofs -dsimp [-List.map_set, -List.map_append, -List.map_replicate, fold_int, fold_ints, fold_u8, fold_u8s, lv6])
    | (refine WpC.condK rfl ?_; simp -implicitDefEqProofs -dsimp [-List.map_set, -List.map_append, -List.map_replicate, fold_int, fold_ints, fold_u8, fold_u8s, lv6])
    | with_reducible refine And.intro (fun _ => ?_) (fun _ => ?_)
    | (with_reducible refine And.intro (by omega) ?_))
  refine CallX.by4 (CopyInts a (by omega)) false [] 6 (by simp) (by simp) (by simp) (by simp -implicitDefEqProofs [-List.map_set, -List.map_append, -List.map_replicate, fold_int, fold_ints, fold_u8, fold_u8s, rs, rsOb, List.idxOf?_cons]) (by simp -implicitDefEqProofs [-List.map_set, -List.map_append, -List.map_replicate, fold_int, fold_ints, fold_u8, fold_u8s, rs, rsOb, List.idxOf?_cons]) ?_; rintro m T' ⟨rfl, rfl⟩ -; simp -implicitDefEqProofs -dsimp [-List.map_set, -List.map_append, -List.map_replicate, fold_int, fold_ints, fold_u8, fold_u8s, frOb, obMp, setAll, setOb, gMap, lv6]
  refine CallX.by4 (Yes a (none0 nodes) write (by omega) (by omega)) false [1, 0] 6 (by simp) (by simp) (by simp) (by simp -implicitDefEqProofs [-List.map_set, -List.map_append, -List.map_replicate, fold_int, fold_ints, fold_u8, fold_u8s, rs, rsOb, List.idxOf?_cons]) (by simp -implicitDefEqProofs [-List.map_set, -List.map_append, -List.map_replicate, fold_int, fold_ints, fold_u8, fold_u8s, rs, rsOb, List.idxOf?_cons]) ?_; rintro m T' ⟨rfl, rfl⟩ -; simp -implicitDefEqProofs -dsimp [-List.map_set, -List.map_append, -List.map_replicate, fold_int, fold_ints, fold_u8, fold_u8s, frOb, obMp, setAll, setOb, gMap, lv6]
  repeat' (first
    | refine WpC.seqC lv6 rfl ?_
    | refine WpC.blockC rfl ?_
    | (refine WpC.reg rfl rfl ?_; simp -implicitDefEqProofs -dsimp [-List.map_set, -List.map_append, -List.map_replicate, fold_int, fold_ints, fold_u8, fold_u8s, lv6])
    | (refine WpC.regP rfl (by decide +kernel) fol (by decide +kernel) (by decide +kernel) ?_; simp -implicitDefEqProofs -dsimp [-List.map_set, -List.map_append, -List.map_replicate, fold_int, fold_ints, fold_u8, fold_u8s, lv6])
    | (refine WpC.regI dr6 rfl rfl (by decide +kernel) fol ?_; simp -implicitDefEqProofs -dsimp [dr6, -List.map_set, -List.map_append, -List.map_replicate, fold_int, fold_ints, fold_u8, fold_u8s, lv6])
    | (refine WpC.regM dm6 rfl rfl (by decide +kernel) fol ?_; simp -implicitDefEqProofs -dsimp [dm6, -List.map_set, -List.map_append, -List.map_replicate, fold_int, fold_ints, fold_u8, fold_u8s, lv6])
    | (refine WpC.regQ dq6 rfl rfl (by decide +kernel) fol ?_; simp -implicitDefEqProofs -dsimp [dq6, -List.map_set, -List.map_append, -List.map_replicate, fold_int, fold_ints, fold_u8, fold_u8s, lv6])
    | (refine WpC.skipC rfl ?_; try simp -implicitDefEqProofs -dsimp [-List.map_set, -List.map_append, -List.map_replicate, fold_int, fold_ints, fold_u8, fold_u8s, lv6])
    | (refine WpC.retC rfl ?_; try simp -implicitDefEqProofs -dsimp [-List.map_set, -List.map_append, -List.map_replicate, fold_int, fold_ints, fold_u8, fold_u8s, lv6])
    | (refine WpC.exitC rfl ?_; try simp -implicitDefEqProofs -dsimp [-List.map_set, -List.map_append, -List.map_replicate, fold_int, fold_ints, fold_u8, fold_u8s, lv6])
    | (refine WpC.condK rfl ?_; simp -implicitDefEqProofs -dsimp [-List.map_set, -List.map_append, -List.map_replicate, fold_int, fold_ints, fold_u8, fold_u8s, lv6])
    | with_reducible refine And.intro (fun _ => ?_) (fun _ => ?_)
    | (with_reducible refine And.intro (by omega) ?_))
  refine CallX.by4 (CopyInts b (by omega)) false [] 6 (by simp) (by simp) (by simp) (by simp -implicitDefEqProofs [-List.map_set, -List.map_append, -List.map_replicate, fold_int, fold_ints, fold_u8, fold_u8s, rs, rsOb, List.idxOf?_cons]) (by simp -implicitDefEqProofs [-List.map_set, -List.map_append, -List.map_replicate, fold_int, fold_ints, fold_u8, fold_u8s, rs, rsOb, List.idxOf?_cons]) ?_; rintro m T' ⟨rfl, rfl⟩ -; simp -implicitDefEqProofs -dsimp [-List.map_set, -List.map_append, -List.map_replicate, fold_int, fold_ints, fold_u8, fold_u8s, frOb, obMp, setAll, setOb, gMap, lv6]
  refine CallX.by4 (Yes b (none0 nodes) read (by omega) (by omega)) false [3, 2] 6 (by simp) (by simp) (by simp) (by simp -implicitDefEqProofs [-List.map_set, -List.map_append, -List.map_replicate, fold_int, fold_ints, fold_u8, fold_u8s, rs, rsOb, List.idxOf?_cons]) (by simp -implicitDefEqProofs [-List.map_set, -List.map_append, -List.map_replicate, fold_int, fold_ints, fold_u8, fold_u8s, rs, rsOb, List.idxOf?_cons]) ?_; rintro m T' ⟨rfl, rfl⟩ -; simp -implicitDefEqProofs -dsimp [-List.map_set, -List.map_append, -List.map_replicate, fold_int, fold_ints, fold_u8, fold_u8s, frOb, obMp, setAll, setOb, gMap, lv6]
  repeat' (first
    | refine WpC.seqC lv6 rfl ?_
    | refine WpC.blockC rfl ?_
    | (refine WpC.reg rfl rfl ?_; simp -implicitDefEqProofs -dsimp [-List.map_set, -List.map_append, -List.map_replicate, fold_int, fold_ints, fold_u8, fold_u8s, lv6])
    | (refine WpC.regP rfl (by decide +kernel) fol (by decide +kernel) (by decide +kernel) ?_; simp -implicitDefEqProofs -dsimp [-List.map_set, -List.map_append, -List.map_replicate, fold_int, fold_ints, fold_u8, fold_u8s, lv6])
    | (refine WpC.regI dr6 rfl rfl (by decide +kernel) fol ?_; simp -implicitDefEqProofs -dsimp [dr6, -List.map_set, -List.map_append, -List.map_replicate, fold_int, fold_ints, fold_u8, fold_u8s, lv6])
    | (refine WpC.regM dm6 rfl rfl (by decide +kernel) fol ?_; simp -implicitDefEqProofs -dsimp [dm6, -List.map_set, -List.map_append, -List.map_replicate, fold_int, fold_ints, fold_u8, fold_u8s, lv6])
    | (refine WpC.regQ dq6 rfl rfl (by decide +kernel) fol ?_; simp -implicitDefEqProofs -dsimp [dq6, -List.map_set, -List.map_append, -List.map_replicate, fold_int, fold_ints, fold_u8, fold_u8s, lv6])
    | (refine WpC.skipC rfl ?_; try simp -implicitDefEqProofs -dsimp [-List.map_set, -List.map_append, -List.map_replicate, fold_int, fold_ints, fold_u8, fold_u8s, lv6])
    | (refine WpC.retC rfl ?_; try simp -implicitDefEqProofs -dsimp [-List.map_set, -List.map_append, -List.map_replicate, fold_int, fold_ints, fold_u8, fold_u8s, lv6])
    | (refine WpC.exitC rfl ?_; try simp -implicitDefEqProofs -dsimp [-List.map_set, -List.map_append, -List.map_replicate, fold_int, fold_ints, fold_u8, fold_u8s, lv6])
    | (refine WpC.condK rfl ?_; simp -implicitDefEqProofs -dsimp [-List.map_set, -List.map_append, -List.map_replicate, fold_int, fold_ints, fold_u8, fold_u8s, lv6])
    | with_reducible refine And.intro (fun _ => ?_) (fun _ => ?_)
    | (with_reducible refine And.intro (by omega) ?_))
  refine CallX.by4 (Done (says 1 a (none0 nodes)) write) false [] 6 (by simp) (by simp) (by simp) (by simp -implicitDefEqProofs [-List.map_set, -List.map_append, -List.map_replicate, fold_int, fold_ints, fold_u8, fold_u8s, rs, rsOb, List.idxOf?_cons]) (by simp -implicitDefEqProofs [-List.map_set, -List.map_append, -List.map_replicate, fold_int, fold_ints, fold_u8, fold_u8s, rs, rsOb, List.idxOf?_cons]) ?_; rintro m T' ⟨rfl, rfl⟩ -; simp -implicitDefEqProofs -dsimp [-List.map_set, -List.map_append, -List.map_replicate, fold_int, fold_ints, fold_u8, fold_u8s, frOb, obMp, setAll, setOb, gMap, lv6]
  refine ⟨fun e1 => ?_, fun e1 => ?_⟩
  · refine CallX.by4 (Done (says 1 b (none0 nodes)) read) false [] 6 (by simp) (by simp) (by simp) (by simp -implicitDefEqProofs [-List.map_set, -List.map_append, -List.map_replicate, fold_int, fold_ints, fold_u8, fold_u8s, rs, rsOb, List.idxOf?_cons]) (by simp -implicitDefEqProofs [-List.map_set, -List.map_append, -List.map_replicate, fold_int, fold_ints, fold_u8, fold_u8s, rs, rsOb, List.idxOf?_cons]) ?_; rintro m T' ⟨rfl, rfl⟩ -; simp -implicitDefEqProofs -dsimp [-List.map_set, -List.map_append, -List.map_replicate, fold_int, fold_ints, fold_u8, fold_u8s, frOb, obMp, setAll, setOb, gMap, lv6]
    by_cases e2 : read ≤ cnt 1 (says 1 b (none0 nodes))
    · obtain ⟨d1, d2, d3, d4, d5⟩ := hcm e1 e2
      clear hcm
      generalize says 1 a (none0 nodes) = sa at *
      generalize says 1 b (none0 nodes) = sb at *
      repeat' (first
    | refine WpC.seqC lv6 rfl ?_
    | refine WpC.blockC rfl ?_
    | (refine WpC.reg rfl rfl ?_; simp -implicitDefEqProofs -dsimp [-List.map_set, -List.map_append, -List.map_replicate, fold_int, fold_ints, fold_u8, fold_u8s, lv6, e2])
    | (refine WpC.regP rfl (by decide +kernel) fol (by decide +kernel) (by decide +kernel) ?_; simp -implicitDefEqProofs -dsimp [-List.map_set, -List.map_append, -List.map_replicate, fold_int, fold_ints, fold_u8, fold_u8s, lv6, e2])
    | (refine WpC.regI dr6 rfl rfl (by decide +kernel) fol ?_; simp -implicitDefEqProofs -dsimp [dr6, -List.map_set, -List.map_append, -List.map_replicate, fold_int, fold_ints, fold_u8, fold_u8s, lv6, e2])
    | (refine WpC.regM dm6 rfl rfl (by decide +kernel) fol ?_; simp -implicitDefEqProofs -dsimp [dm6, -List.map_set, -List.map_append, -List.map_replicate, fold_int, fold_ints, fold_u8, fold_u8s, lv6, e2])
    | (refine WpC.regQ dq6 rfl rfl (by decide +kernel) fol ?_; simp -implicitDefEqProofs -dsimp [dq6, -List.map_set, -List.map_append, -List.map_replicate, fold_int, fold_ints, fold_u8, fold_u8s, lv6, e2])
    | (refine WpC.skipC rfl ?_; try simp -implicitDefEqProofs -dsimp [-List.map_set, -List.map_append, -List.map_replicate, fold_int, fold_ints, fold_u8, fold_u8s, lv6, e2])
    | (refine WpC.retC rfl ?_; try simp -implicitDefEqProofs -dsimp [-List.map_set, -List.map_append, -List.map_replicate, fold_int, fold_ints, fold_u8, fold_u8s, lv6, e2])
    | (refine WpC.exitC rfl ?_; try simp -implicitDefEqProofs -dsimp [-List.map_set, -List.map_append, -List.map_replicate, fold_int, fold_ints, fold_u8, fold_u8s, lv6, e2])
    | (refine WpC.condK rfl ?_; simp -implicitDefEqProofs -dsimp [-List.map_set, -List.map_append, -List.map_replicate, fold_int, fold_ints, fold_u8, fold_u8s, lv6, e2])
    | with_reducible refine And.intro (fun _ => ?_) (fun _ => ?_)
    | (with_reducible refine And.intro (by omega) ?_))
      refine WpC.loopC rfl (fun i => i ≤ a.length ∧ i ≤ ic) (fun i => ([(0, int nodes), (3, .sl false (a.map int) a.length), (4, .sl false (b.map int) b.length), (13, int i)], [])) (fun i => a.length - i) 0 (by simp) (Gh.round [] (by simp) (by simp) rfl rfl (by simp -implicitDefEqProofs -dsimp [-List.map_set, -List.map_append, -List.map_replicate, fold_int, fold_ints, fold_u8, fold_u8s, obMp, keepG, List.idxOf?_cons, leM, envL, i64w])) ?_
      rintro i ⟨hi, hic'⟩ R1 hR1 hR2
      simp only at hR1 ⊢
      repeat' (first
    | refine WpC.seqC lv6 rfl ?_
    | refine WpC.blockC rfl ?_
    | (refine WpC.reg rfl rfl ?_; simp -implicitDefEqProofs -dsimp [-List.map_set, -List.map_append, -List.map_replicate, fold_int, fold_ints, fold_u8, fold_u8s, lv6])
    | (refine WpC.regP rfl (by decide +kernel) fol (by decide +kernel) (by decide +kernel) ?_; simp -implicitDefEqProofs -dsimp [-List.map_set, -List.map_append, -List.map_replicate, fold_int, fold_ints, fold_u8, fold_u8s, lv6])
    | (refine WpC.regI dr6 rfl rfl (by decide +kernel) fol ?_; simp -implicitDefEqProofs -dsimp [dr6, -List.map_set, -List.map_append, -List.map_replicate, fold_int, fold_ints, fold_u8, fold_u8s, lv6])
    | (refine WpC.regM dm6 rfl rfl (by decide +kernel) fol ?_; simp -implicitDefEqProofs -dsimp [dm6, -List.map_set, -List.map_append, -List.map_replicate, fold_int, fold_ints, fold_u8, fold_u8s, lv6])
    | (refine WpC.regQ dq6 rfl rfl (by decide +kernel) fol ?_; simp -implicitDefEqProofs -dsimp [dq6, -List.map_set, -List.map_append, -List.map_replicate, fold_int, fold_ints, fold_u8, fold_u8s, lv6])
    | (refine WpC.skipC rfl ?_; try simp -implicitDefEqProofs -dsimp [-List.map_set, -List.map_append, -List.map_replicate, fold_int, fold_ints, fold_u8, fold_u8s, lv6])
    | (refine WpC.retC rfl ?_; try simp -implicitDefEqProofs -dsimp [-List.map_set, -List.map_append, -List.map_replicate, fold_int, fold_ints, fold_u8, fold_u8s, lv6])
    | (refine WpC.exitC rfl ?_; try simp -implicitDefEqProofs -dsimp [-List.map_set, -List.map_append, -List.map_replicate, fold_int, fold_ints, fold_u8, fold_u8s, lv6])
    | (refine WpC.condK rfl ?_; simp -implicitDefEqProofs -dsimp [-List.map_set, -List.map_append, -List.map_replicate, fold_int, fold_ints, fold_u8, fold_u8s, lv6])
    | with_reducible refine And.intro (fun _ => ?_) (fun _ => ?_)
    | (with_reducible refine And.intro (by omega) ?_))
      · refine WpC.loopC rfl (fun j => j ≤ b.length ∧ (i = ic → j ≤ jc)) (fun j => ([(0, int nodes), (3, .sl false (a.map int) a.length), (4, .sl false (b.map int) b.length), (13, int i), (14, int j)], [])) (fun j => b.length - j) 0 (by simp) (Gh.envL (by simp -implicitDefEqProofs -dsimp [-List.map_set, -List.map_append, -List.map_replicate, fold_int, fold_ints, fold_u8, fold_u8s, obMp, keepG, List.idxOf?_cons, leM, envL, i64w])) ?_
        rintro j ⟨hj, hjc'⟩ R3 hR3 hR4
        simp only at hR3 ⊢
        repeat' (first
    | refine WpC.seqC lv6 rfl ?_
    | refine WpC.blockC rfl ?_
    | (refine WpC.reg rfl rfl ?_; simp -implicitDefEqProofs -dsimp [-List.map_set, -List.map_append, -List.map_replicate, fold_int, fold_ints, fold_u8, fold_u8s, lv6])
    | (refine WpC.regP rfl (by decide +kernel) fol (by decide +kernel) (by decide +kernel) ?_; simp -implicitDefEqProofs -dsimp [-List.map_set, -List.map_append, -List.map_replicate, fold_int, fold_ints, fold_u8, fold_u8s, lv6])
    | (refine WpC.regI dr6 rfl rfl (by decide +kernel) fol ?_; simp -implicitDefEqProofs -dsimp [dr6, -List.map_set, -List.map_append, -List.map_replicate, fold_int, fold_ints, fold_u8, fold_u8s, lv6])
    | (refine WpC.regM dm6 rfl rfl (by decide +kernel) fol ?_; simp -implicitDefEqProofs -dsimp [dm6, -List.map_set, -List.map_append, -List.map_replicate, fold_int, fold_ints, fold_u8, fold_u8s, lv6])
    | (refine WpC.regQ dq6 rfl rfl (by decide +kernel) fol ?_; simp -implicitDefEqProofs -dsimp [dq6, -List.map_set, -List.map_append, -List.map_replicate, fold_int, fold_ints, fold_u8, fold_u8s, lv6])
    | (refine WpC.skipC rfl ?_; try simp -implicitDefEqProofs -dsimp [-List.map_set, -List.map_append, -List.map_replicate, fold_int, fold_ints, fold_u8, fold_u8s, lv6])
    | (refine WpC.retC rfl ?_; try simp -implicitDefEqProofs -dsimp [-List.map_set, -List.map_append, -List.map_replicate, fold_int, fold_ints, fold_u8, fold_u8s, lv6])
    | (refine WpC.exitC rfl ?_; try simp -implicitDefEqProofs -dsimp [-List.map_set, -List.map_append, -List.map_replicate, fold_int, fold_ints, fold_u8, fold_u8s, lv6])
    | (refine WpC.condK rfl ?_; simp -implicitDefEqProofs -dsimp [-List.map_set, -List.map_append, -List.map_replicate, fold_int, fold_ints, fold_u8, fold_u8s, lv6])
    | with_reducible refine And.intro (fun _ => ?_) (fun _ => ?_)
    | (with_reducible refine And.intro (by omega) ?_))
        · refine hR4 _ _ _ (by simp) ?_
          simp -implicitDefEqProofs -dsimp [-List.map_set, -List.map_append, -List.map_replicate, fold_int, fold_ints, fold_u8, fold_u8s, lv6]
          refine hR2 _ _ _ (by simp) ?_
          simp -implicitDefEqProofs -dsimp [-List.map_set, -List.map_append, -List.map_replicate, fold_int, fold_ints, fold_u8, fold_u8s, lv6]
          refine (hR _ _ ?_).1; simp -implicitDefEqProofs -dsimp [-List.map_set, -List.map_append, -List.map_replicate, fold_int, fold_ints, fold_u8, fold_u8s, Try.f6, envL]
        · refine hR3 (j + 1) _ _ ⟨by omega, fun e => ?_⟩ (Gh.round [] (by simp) (by simp) rfl (by simp -implicitDefEqProofs -dsimp [-List.map_set, -List.map_append, -List.map_replicate, fold_int, fold_ints, fold_u8, fold_u8s, obMp, keepG, List.idxOf?_cons, leM, envL, i64w] <;> (try simp (disch := omega) only [i64w])) (by simp -implicitDefEqProofs -dsimp [-List.map_set, -List.map_append, -List.map_replicate, fold_int, fold_ints, fold_u8, fold_u8s, obMp, keepG, List.idxOf?_cons, leM, envL, i64w] <;> (try simp (disch := omega) only [i64w]))) (by omega)
          have := hjc' e
          by_cases e3 : j = jc
          · subst e e3; omega
          · omega
        · refine hR3 (j + 1) _ _ ⟨by omega, fun e => ?_⟩ (Gh.round [] (by simp) (by simp) rfl (by simp -implicitDefEqProofs -dsimp [-List.map_set, -List.map_append, -List.map_replicate, fold_int, fold_ints, fold_u8, fold_u8s, obMp, keepG, List.idxOf?_cons, leM, envL, i64w] <;> (try simp (disch := omega) only [i64w])) (by simp -implicitDefEqProofs -dsimp [-List.map_set, -List.map_append, -List.map_replicate, fold_int, fold_ints, fold_u8, fold_u8s, obMp, keepG, List.idxOf?_cons, leM, envL, i64w] <;> (try simp (disch := omega) only [i64w]))) (by omega)
          have := hjc' e
          by_cases e3 : j = jc
          · subst e e3; omega
          · omega
        · refine hR3 (j + 1) _ _ ⟨by omega, fun e => ?_⟩ (Gh.round [] (by simp) (by simp) rfl (by simp -implicitDefEqProofs -dsimp [-List.map_set, -List.map_append, -List.map_replicate, fold_int, fold_ints, fold_u8, fold_u8s, obMp, keepG, List.idxOf?_cons, leM, envL, i64w] <;> (try simp (disch := omega) only [i64w])) (by simp -implicitDefEqProofs -dsimp [-List.map_set, -List.map_append, -List.map_replicate, fold_int, fold_ints, fold_u8, fold_u8s, obMp, keepG, List.idxOf?_cons, leM, envL, i64w] <;> (try simp (disch := omega) only [i64w]))) (by omega)
          have := hjc' e
          by_cases e3 : j = jc
          · subst e e3; omega
          · omega
        · refine hR4 _ _ _ (by simp) ?_
          simp -implicitDefEqProofs -dsimp [-List.map_set, -List.map_append, -List.map_replicate, fold_int, fold_ints, fold_u8, fold_u8s, lv6]
          repeat' (first
    | refine WpC.seqC lv6 rfl ?_
    | refine WpC.blockC rfl ?_
    | (refine WpC.reg rfl rfl ?_; simp -implicitDefEqProofs -dsimp [-List.map_set, -List.map_append, -List.map_replicate, fold_int, fold_ints, fold_u8, fold_u8s, lv6])
    | (refine WpC.regP rfl (by decide +kernel) fol (by decide +kernel) (by decide +kernel) ?_; simp -implicitDefEqProofs -dsimp [-List.map_set, -List.map_append, -List.map_replicate, fold_int, fold_ints, fold_u8, fold_u8s, lv6])
    | (refine WpC.regI dr6 rfl rfl (by decide +kernel) fol ?_; simp -implicitDefEqProofs -dsimp [dr6, -List.map_set, -List.map_append, -List.map_replicate, fold_int, fold_ints, fold_u8, fold_u8s, lv6])
    | (refine WpC.regM dm6 rfl rfl (by decide +kernel) fol ?_; simp -implicitDefEqProofs -dsimp [dm6, -List.map_set, -List.map_append, -List.map_replicate, fold_int, fold_ints, fold_u8, fold_u8s, lv6])
    | (refine WpC.regQ dq6 rfl rfl (by decide +kernel) fol ?_; simp -implicitDefEqProofs -dsimp [dq6, -List.map_set, -List.map_append, -List.map_replicate, fold_int, fold_ints, fold_u8, fold_u8s, lv6])
    | (refine WpC.skipC rfl ?_; try simp -implicitDefEqProofs -dsimp [-List.map_set, -List.map_append, -List.map_replicate, fold_int, fold_ints, fold_u8, fold_u8s, lv6])
    | (refine WpC.retC rfl ?_; try simp -implicitDefEqProofs -dsimp [-List.map_set, -List.map_append, -List.map_replicate, fold_int, fold_ints, fold_u8, fold_u8s, lv6])
    | (refine WpC.exitC rfl ?_; try simp -implicitDefEqProofs -dsimp [-List.map_set, -List.map_append, -List.map_replicate, fold_int, fold_ints, fold_u8, fold_u8s, lv6])
    | (refine WpC.condK rfl ?_; simp -implicitDefEqProofs -dsimp [-List.map_set, -List.map_append, -List.map_replicate, fold_int, fold_ints, fold_u8, fold_u8s, lv6])
    | with_reducible refine And.intro (fun _ => ?_) (fun _ => ?_)
    | (with_reducible refine And.intro (by omega) ?_))
          refine hR1 (i + 1) _ _ ⟨by omega, ?_⟩ (Gh.round [] (by simp) (by simp) rfl (by simp -implicitDefEqProofs -dsimp [-List.map_set, -List.map_append, -List.map_replicate, fold_int, fold_ints, fold_u8, fold_u8s, obMp, keepG, List.idxOf?_cons, leM, envL, i64w] <;> (try simp (disch := omega) only [i64w])) (by simp -implicitDefEqProofs -dsimp [-List.map_set, -List.map_append, -List.map_replicate, fold_int, fold_ints, fold_u8, fold_u8s, obMp, keepG, List.idxOf?_cons, leM, envL, i64w] <;> (try simp (disch := omega) only [i64w]))) (by omega)
          by_cases e3 : i = ic
          · have := hjc' e3; omega
          · omega
      · omega
    · repeat' (first
    | refine WpC.seqC lv6 rfl ?_
    | refine WpC.blockC rfl ?_
    | (refine WpC.reg rfl rfl ?_; simp -implicitDefEqProofs -dsimp [-List.map_set, -List.map_append, -List.map_replicate, fold_int, fold_ints, fold_u8, fold_u8s, lv6, e2])
    | (refine WpC.regP rfl (by decide +kernel) fol (by decide +kernel) (by decide +kernel) ?_; simp -implicitDefEqProofs -dsimp [-List.map_set, -List.map_append, -List.map_replicate, fold_int, fold_ints, fold_u8, fold_u8s, lv6, e2])
    | (refine WpC.regI dr6 rfl rfl (by decide +kernel) fol ?_; simp -implicitDefEqProofs -dsimp [dr6, -List.map_set, -List.map_append, -List.map_replicate, fold_int, fold_ints, fold_u8, fold_u8s, lv6, e2])
    | (refine WpC.regM dm6 rfl rfl (by decide +kernel) fol ?_; simp -implicitDefEqProofs -dsimp [dm6, -List.map_set, -List.map_append, -List.map_replicate, fold_int, fold_ints, fold_u8, fold_u8s, lv6, e2])
    | (refine WpC.regQ dq6 rfl rfl (by decide +kernel) fol ?_; simp -implicitDefEqProofs -dsimp [dq6, -List.map_set, -List.map_append, -List.map_replicate, fold_int, fold_ints, fold_u8, fold_u8s, lv6, e2])
    | (refine WpC.skipC rfl ?_; try simp -implicitDefEqProofs -dsimp [-List.map_set, -List.map_append, -List.map_replicate, fold_int, fold_ints, fold_u8, fold_u8s, lv6, e2])
    | (refine WpC.retC rfl ?_; try simp -implicitDefEqProofs -dsimp [-List.map_set, -List.map_append, -List.map_replicate, fold_int, fold_ints, fold_u8, fold_u8s, lv6, e2])
    | (refine WpC.exitC rfl ?_; try simp -implicitDefEqProofs -dsimp [-List.map_set, -List.map_append, -List.map_replicate, fold_int, fold_ints, fold_u8, fold_u8s, lv6, e2])
    | (refine WpC.condK rfl ?_; simp -implicitDefEqProofs -dsimp [-List.map_set, -List.map_append, -List.map_replicate, fold_int, fold_ints, fold_u8, fold_u8s, lv6, e2])
    | with_reducible refine And.intro (fun _ => ?_) (fun _ => ?_)
    | (with_reducible refine And.intro (by omega) ?_))
      refine (hR _ _ ?_).1; simp -implicitDefEqProofs -dsimp [-List.map_set, -List.map_append, -List.map_replicate, fold_int, fold_ints, fold_u8, fold_u8s, Try.f6, envL]
  · repeat' (first
    | refine WpC.seqC lv6 rfl ?_
    | refine WpC.blockC rfl ?_
    | (refine WpC.reg rfl rfl ?_; simp -implicitDefEqProofs -dsimp [-List.map_set, -List.map_append, -List.map_replicate, fold_int, fold_ints, fold_u8, fold_u8s, lv6])
    | (refine WpC.regP rfl (by decide +kernel) fol (by decide +kernel) (by decide +kernel) ?_; simp -implicitDefEqProofs -dsimp [-List.map_set, -List.map_append, -List.map_replicate, fold_int, fold_ints, fold_u8, fold_u8s, lv6])
    | (refine WpC.regI dr6 rfl rfl (by decide +kernel) fol ?_; simp -implicitDefEqProofs -dsimp [dr6, -List.map_set, -List.map_append, -List.map_replicate, fold_int, fold_ints, fold_u8, fold_u8s, lv6])
    | (refine WpC.regM dm6 rfl rfl (by decide +kernel) fol ?_; simp -implicitDefEqProofs -dsimp [dm6, -List.map_set, -List.map_append, -List.map_replicate, fold_int, fold_ints, fold_u8, fold_u8s, lv6])
    | (refine WpC.regQ dq6 rfl rfl (by decide +kernel) fol ?_; simp -implicitDefEqProofs -dsimp [dq6, -List.map_set, -List.map_append, -List.map_replicate, fold_int, fold_ints, fold_u8, fold_u8s, lv6])
    | (refine WpC.skipC rfl ?_; try simp -implicitDefEqProofs -dsimp [-List.map_set, -List.map_append, -List.map_replicate, fold_int, fold_ints, fold_u8, fold_u8s, lv6])
    | (refine WpC.retC rfl ?_; try simp -implicitDefEqProofs -dsimp [-List.map_set, -List.map_append, -List.map_replicate, fold_int, fold_ints, fold_u8, fold_u8s, lv6])
    | (refine WpC.exitC rfl ?_; try simp -implicitDefEqProofs -dsimp [-List.map_set, -List.map_append, -List.map_replicate, fold_int, fold_ints, fold_u8, fold_u8s, lv6])
    | (refine WpC.condK rfl ?_; simp -implicitDefEqProofs -dsimp [-List.map_set, -List.map_append, -List.map_replicate, fold_int, fold_ints, fold_u8, fold_u8s, lv6])
    | with_reducible refine And.intro (fun _ => ?_) (fun _ => ?_)
    | (with_reducible refine And.intro (by omega) ?_))
    refine (hR _ _ ?_).1; simp -implicitDefEqProofs -dsimp [-List.map_set, -List.map_append, -List.map_replicate, fold_int, fold_ints, fold_u8, fold_u8s, Try.f6, envL]
end Go.Proofs.Ytpbgiccloeihcaa
