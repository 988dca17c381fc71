import Derived.Test.YtpbgiccloeihcaaGA
open Go Go.Tl
set_option linter.unusedSimpArgs false
set_option linter.unusedVariables false
set_option linter.unnecessarySimpa false
namespace Go.Proofs.Ytpbgiccloeihcaa

set_option maxRecDepth 100000 in
set_option maxHeartbeats 4000000 in
theorem lawStays (nodes need : Int) (list : List (Bool × List Int)) : Con Try.prog 4 [int nodes, int need, .sl false (list.flatMap sy) list.length] [] fun m _ => m = .v (.bool true) := by
  have h8 := many_le nodes
  have hn0 := none0_length nodes
  refine Con.by Try.func4 en4 rfl (by simp [Try.ntmps4]) fun R hR hF hU => ?_; rw [Try.ntmps4]
  repeat' (first
    | refine WpC.seqC lv4 rfl ?_
    | refine WpC.blockC rfl ?_
    | (refine WpC.reg rfl rfl ?_; simp -implicitDefEqProofs -dsimp [-List.map_set, -List.map_append, -List.map_replicate, fold_int, fold_ints, fold_u8, fold_u8s, lv4])
    | (refine WpC.regP rfl (by decide +kernel) fol (by decide +kernel) (by decide +kernel) ?_; simp -implicitDefEqProofs -dsimp [-List.map_set, -List.map_append, -List.map_replicate, fold_int, fold_ints, fold_u8, fold_u8s, lv4])
    | (refine WpC.regI dr4 rfl rfl (by decide +kernel) fol ?_; simp -implicitDefEqProofs -dsimp [dr4, -List.map_set, -List.map_append, -List.map_replicate, fold_int, fold_ints, fold_u8, fold_u8s, lv4])
    | (refine WpC.regM dm4 rfl rfl (by decide +kernel) fol ?_; simp -implicitDefEqProofs -dsimp [dm4, -List.map_set, -List.map_append, -List.map_replicate, fold_int, fold_ints, fold_u8, fold_u8s, lv4])
    | (refine WpC.regQ dq4 rfl rfl (by decide +kernel) fol ?_; simp -implicitDefEqProofs -dsimp [dq4, -List.map_set, -List.map_append, -List.map_replicate, fold_int, fold_ints, fold_u8, fold_u8s, lv4])
    | (refine WpC.skipC rfl ?_; try simp -implicitDefEqProofs -dsimp [-List.map_set, -List.map_append, -List.map_replicate, fold_int, fold_ints, fold_u8, fold_u8s, lv4])
    | (refine WpC.retC rfl ?_; try simp -implicitDefEqProofs -dsimp [-List.map_set, -List.map_append, -List.map_replicate, fold_int, fold_ints, fold_u8, fold_u8s, lv4])
    | (refine WpC.exitC rfl ?_; try simp -implicitDefEqProofs -dsimp [-List.map_set, -List.map_append, -List.map_replicate, fold_int, fold_ints, fold_u8, fold_u8s, lv4])
    | (refine WpC.condK rfl ?_; simp -implicitDefEqProofs -dsimp [-List.map_set, -List.map_append, -List.map_replicate, fold_int, fold_ints, fold_u8, fold_u8s, lv4])
    | with_reducible refine And.intro (fun _ => ?_) (fun _ => ?_)
    | (with_reducible refine And.intro (by omega) ?_))
  refine CallX.by4 (alive) false [] 6 (by simp) (by simp) (by simp) (by simp -implicitDefEqProofs [-List.map_set, -List.map_append, -List.map_replicate, fold_int, fold_ints, fold_u8, fold_u8s, rs, rsOb, List.idxOf?_cons]) (by simp -implicitDefEqProofs [-List.map_set, -List.map_append, -List.map_replicate, fold_int, fold_ints, fold_u8, fold_u8s, rs, rsOb, List.idxOf?_cons]) ?_; rintro m T' ⟨rfl, rfl⟩ -; simp -implicitDefEqProofs -dsimp [-List.map_set, -List.map_append, -List.map_replicate, fold_int, fold_ints, fold_u8, fold_u8s, frOb, obMp, setAll, setOb, gMap, lv4]
  repeat' (first
    | refine WpC.seqC lv4 rfl ?_
    | refine WpC.blockC rfl ?_
    | (refine WpC.reg rfl rfl ?_; simp -implicitDefEqProofs -dsimp [-List.map_set, -List.map_append, -List.map_replicate, fold_int, fold_ints, fold_u8, fold_u8s, lv4])
    | (refine WpC.regP rfl (by decide +kernel) fol (by decide +kernel) (by decide +kernel) ?_; simp -implicitDefEqProofs -dsimp [-List.map_set, -List.map_append, -List.map_replicate, fold_int, fold_ints, fold_u8, fold_u8s, lv4])
    | (refine WpC.regI dr4 rfl rfl (by decide +kernel) fol ?_; simp -implicitDefEqProofs -dsimp [dr4, -List.map_set, -List.map_append, -List.map_replicate, fold_int, fold_ints, fold_u8, fold_u8s, lv4])
    | (refine WpC.regM dm4 rfl rfl (by decide +kernel) fol ?_; simp -implicitDefEqProofs -dsimp [dm4, -List.map_set, -List.map_append, -List.map_replicate, fold_int, fold_ints, fold_u8, fold_u8s, lv4])
    | (refine WpC.regQ dq4 rfl rfl (by decide +kernel) fol ?_; simp -implicitDefEqProofs -dsimp [dq4, -List.map_set, -List.map_append, -List.map_replicate, fold_int, fold_ints, fold_u8, fold_u8s, lv4])
    | (refine WpC.skipC rfl ?_; try simp -implicitDefEqProofs -dsimp [-List.map_set, -List.map_append, -List.map_replicate, fold_int, fold_ints, fold_u8, fold_u8s, lv4])
    | (refine WpC.retC rfl ?_; try simp -implicitDefEqProofs -dsimp [-List.map_set, -List.map_append, -List.map_replicate, fold_int, fold_ints, fold_u8, fold_u8s, lv4])
    | (refine WpC.exitC rfl ?_; try simp -implicitDefEqProofs -dsimp [-List.map_set, -List.map_append, -List.map_replicate, fold_int, fold_ints, fold_u8, fold_u8s, lv4])
    | (refine WpC.condK rfl ?_; simp -implicitDefEqProofs -dsimp [-List.map_set, -List.map_append, -List.map_replicate, fold_int, fold_ints, fold_u8, fold_u8s, lv4])
    | with_reducible refine And.intro (fun _ => ?_) (fun _ => ?_)
    | (with_reducible refine And.intro (by omega) ?_))
  refine CallX.by4 (New nodes need) false [] 6 (by simp) (by simp) (by simp) (by simp -implicitDefEqProofs [-List.map_set, -List.map_append, -List.map_replicate, fold_int, fold_ints, fold_u8, fold_u8s, rs, rsOb, List.idxOf?_cons]) (by simp -implicitDefEqProofs [-List.map_set, -List.map_append, -List.map_replicate, fold_int, fold_ints, fold_u8, fold_u8s, rs, rsOb, List.idxOf?_cons]) ?_; rintro m T' ⟨rfl, rfl⟩ -; simp -implicitDefEqProofs -dsimp [-List.map_set, -List.map_append, -List.map_replicate, fold_int, fold_ints, fold_u8, fold_u8s, frOb, obMp, setAll, setOb, gMap, lv4]
  repeat' (first
    | refine WpC.seqC lv4 rfl ?_
    | refine WpC.blockC rfl ?_
    | (refine WpC.reg rfl rfl ?_; simp -implicitDefEqProofs -dsimp [-List.map_set, -List.map_append, -List.map_replicate, fold_int, fold_ints, fold_u8, fold_u8s, lv4])
    | (refine WpC.regP rfl (by decide +kernel) fol (by decide +kernel) (by decide +kernel) ?_; simp -implicitDefEqProofs -dsimp [-List.map_set, -List.map_append, -List.map_replicate, fold_int, fold_ints, fold_u8, fold_u8s, lv4])
    | (refine WpC.regI dr4 rfl rfl (by decide +kernel) fol ?_; simp -implicitDefEqProofs -dsimp [dr4, -List.map_set, -List.map_append, -List.map_replicate, fold_int, fold_ints, fold_u8, fold_u8s, lv4])
    | (refine WpC.regM dm4 rfl rfl (by decide +kernel) fol ?_; simp -implicitDefEqProofs -dsimp [dm4, -List.map_set, -List.map_append, -List.map_replicate, fold_int, fold_ints, fold_u8, fold_u8s, lv4])
    | (refine WpC.regQ dq4 rfl rfl (by decide +kernel) fol ?_; simp -implicitDefEqProofs -dsimp [dq4, -List.map_set, -List.map_append, -List.map_replicate, fold_int, fold_ints, fold_u8, fold_u8s, lv4])
    | (refine WpC.skipC rfl ?_; try simp -implicitDefEqProofs -dsimp [-List.map_set, -List.map_append, -List.map_replicate, fold_int, fold_ints, fold_u8, fold_u8s, lv4])
    | (refine WpC.retC rfl ?_; try simp -implicitDefEqProofs -dsimp [-List.map_set, -List.map_append, -List.map_replicate, fold_int, fold_ints, fold_u8, fold_u8s, lv4])
    | (refine WpC.exitC rfl ?_; try simp -implicitDefEqProofs -dsimp [-List.map_set, -List.map_append, -List.map_replicate, fold_int, fold_ints, fold_u8, fold_u8s, lv4])
    | (refine WpC.condK rfl ?_; simp -implicitDefEqProofs -dsimp [-List.map_set, -List.map_append, -List.map_replicate, fold_int, fold_ints, fold_u8, fold_u8s, lv4])
    | with_reducible refine And.intro (fun _ => ?_) (fun _ => ?_)
    | (with_reducible refine And.intro (by omega) ?_))
  refine CallX.by4 (lcut list) true [] 6 (by simp) (by simp) (by simp) (by simp -implicitDefEqProofs [-List.map_set, -List.map_append, -List.map_replicate, fold_int, fold_ints, fold_u8, fold_u8s, rs, rsOb, List.idxOf?_cons]) (by simp -implicitDefEqProofs [-List.map_set, -List.map_append, -List.map_replicate, fold_int, fold_ints, fold_u8, fold_u8s, rs, rsOb, List.idxOf?_cons]) ?_; rintro m T' ⟨rfl, rfl⟩ -; simp -implicitDefEqProofs -dsimp [-List.map_set, -List.map_append, -List.map_replicate, fold_int, fold_ints, fold_u8, fold_u8s, frOb, obMp, setAll, setOb, gMap, lv4]
  have hl50 := cut50_length list
  generalize cut50 list = l at hl50 ⊢
  repeat' (first
    | refine WpC.seqC lv4 rfl ?_
    | refine WpC.blockC rfl ?_
    | (refine WpC.reg rfl rfl ?_; simp -implicitDefEqProofs -dsimp [-List.map_set, -List.map_append, -List.map_replicate, fold_int, fold_ints, fold_u8, fold_u8s, lv4])
    | (refine WpC.regP rfl (by decide +kernel) fol (by decide +kernel) (by decide +kernel) ?_; simp -implicitDefEqProofs -dsimp [-List.map_set, -List.map_append, -List.map_replicate, fold_int, fold_ints, fold_u8, fold_u8s, lv4])
    | (refine WpC.regI dr4 rfl rfl (by decide +kernel) fol ?_; simp -implicitDefEqProofs -dsimp [dr4, -List.map_set, -List.map_append, -List.map_replicate, fold_int, fold_ints, fold_u8, fold_u8s, lv4])
    | (refine WpC.regM dm4 rfl rfl (by decide +kernel) fol ?_; simp -implicitDefEqProofs -dsimp [dm4, -List.map_set, -List.map_append, -List.map_replicate, fold_int, fold_ints, fold_u8, fold_u8s, lv4])
    | (refine WpC.regQ dq4 rfl rfl (by decide +kernel) fol ?_; simp -implicitDefEqProofs -dsimp [dq4, -List.map_set, -List.map_append, -List.map_replicate, fold_int, fold_ints, fold_u8, fold_u8s, lv4])
    | (refine WpC.skipC rfl ?_; try simp -implicitDefEqProofs -dsimp [-List.map_set, -List.map_append, -List.map_replicate, fold_int, fold_ints, fold_u8, fold_u8s, lv4])
    | (refine WpC.retC rfl ?_; try simp -implicitDefEqProofs -dsimp [-List.map_set, -List.map_append, -List.map_replicate, fold_int, fold_ints, fold_u8, fold_u8s, lv4])
    | (refine WpC.exitC rfl ?_; try simp -implicitDefEqProofs -dsimp [-List.map_set, -List.map_append, -List.map_replicate, fold_int, fold_ints, fold_u8, fold_u8s, lv4])
    | (refine WpC.condK rfl ?_; simp -implicitDefEqProofs -dsimp [-List.map_set, -List.map_append, -List.map_replicate, fold_int, fold_ints, fold_u8, fold_u8s, lv4])
    | with_reducible refine And.intro (fun _ => ?_) (fun _ => ?_)
    | (with_reducible refine And.intro (by omega) ?_))
  refine CallX.by4 (Done (none0 nodes) need) false [] 6 (by simp) (by simp) (by simp) (by simp -implicitDefEqProofs [-List.map_set, -List.map_append, -List.map_replicate, fold_int, fold_ints, fold_u8, fold_u8s, rs, rsOb, List.idxOf?_cons]) (by simp -implicitDefEqProofs [-List.map_set, -List.map_append, -List.map_replicate, fold_int, fold_ints, fold_u8, fold_u8s, rs, rsOb, List.idxOf?_cons]) ?_; rintro m T' ⟨rfl, rfl⟩ -; simp -implicitDefEqProofs -dsimp [-List.map_set, -List.map_append, -List.map_replicate, fold_int, fold_ints, fold_u8, fold_u8s, frOb, obMp, setAll, setOb, gMap, lv4]
  repeat' (first
    | refine WpC.seqC lv4 rfl ?_
    | refine WpC.blockC rfl ?_
    | (refine WpC.reg rfl rfl ?_; simp -implicitDefEqProofs -dsimp [-List.map_set, -List.map_append, -List.map_replicate, fold_int, fold_ints, fold_u8, fold_u8s, lv4])
    | (refine WpC.regP rfl (by decide +kernel) fol (by decide +kernel) (by decide +kernel) ?_; simp -implicitDefEqProofs -dsimp [-List.map_set, -List.map_append, -List.map_replicate, fold_int, fold_ints, fold_u8, fold_u8s, lv4])
    | (refine WpC.regI dr4 rfl rfl (by decide +kernel) fol ?_; simp -implicitDefEqProofs -dsimp [dr4, -List.map_set, -List.map_append, -List.map_replicate, fold_int, fold_ints, fold_u8, fold_u8s, lv4])
    | (refine WpC.regM dm4 rfl rfl (by decide +kernel) fol ?_; simp -implicitDefEqProofs -dsimp [dm4, -List.map_set, -List.map_append, -List.map_replicate, fold_int, fold_ints, fold_u8, fold_u8s, lv4])
    | (refine WpC.regQ dq4 rfl rfl (by decide +kernel) fol ?_; simp -implicitDefEqProofs -dsimp [dq4, -List.map_set, -List.map_append, -List.map_replicate, fold_int, fold_ints, fold_u8, fold_u8s, lv4])
    | (refine WpC.skipC rfl ?_; try simp -implicitDefEqProofs -dsimp [-List.map_set, -List.map_append, -List.map_replicate, fold_int, fold_ints, fold_u8, fold_u8s, lv4])
    | (refine WpC.retC rfl ?_; try simp -implicitDefEqProofs -dsimp [-List.map_set, -List.map_append, -List.map_replicate, fold_int, fold_ints, fold_u8, fold_u8s, lv4])
    | (refine WpC.exitC rfl ?_; try simp -implicitDefEqProofs -dsimp [-List.map_set, -List.map_append, -List.map_replicate, fold_int, fold_ints, fold_u8, fold_u8s, lv4])
    | (refine WpC.condK rfl ?_; simp -implicitDefEqProofs -dsimp [-List.map_set, -List.map_append, -List.map_replicate, fold_int, fold_ints, fold_u8, fold_u8s, lv4])
    | with_reducible refine And.intro (fun _ => ?_) (fun _ => ?_)
    | (with_reducible refine And.intro (by omega) ?_))
  refine CallX.by4 (Lost (none0 nodes) need (by omega)) false [] 6 (by simp) (by simp) (by simp) (by simp -implicitDefEqProofs [-List.map_set, -List.map_append, -List.map_replicate, fold_int, fold_ints, fold_u8, fold_u8s, rs, rsOb, List.idxOf?_cons]) (by simp -implicitDefEqProofs [-List.map_set, -List.map_append, -List.map_replicate, fold_int, fold_ints, fold_u8, fold_u8s, rs, rsOb, List.idxOf?_cons]) ?_; rintro m T' ⟨rfl, rfl⟩ -; simp -implicitDefEqProofs -dsimp [-List.map_set, -List.map_append, -List.map_replicate, fold_int, fold_ints, fold_u8, fold_u8s, frOb, obMp, setAll, setOb, gMap, lv4]
  repeat' (first
    | refine WpC.seqC lv4 rfl ?_
    | refine WpC.blockC rfl ?_
    | (refine WpC.reg rfl rfl ?_; simp -implicitDefEqProofs -dsimp [-List.map_set, -List.map_append, -List.map_replicate, fold_int, fold_ints, fold_u8, fold_u8s, lv4])
    | (refine WpC.regP rfl (by decide +kernel) fol (by decide +kernel) (by decide +kernel) ?_; simp -implicitDefEqProofs -dsimp [-List.map_set, -List.map_append, -List.map_replicate, fold_int, fold_ints, fold_u8, fold_u8s, lv4])
    | (refine WpC.regI dr4 rfl rfl (by decide +kernel) fol ?_; simp -implicitDefEqProofs -dsimp [dr4, -List.map_set, -List.map_append, -List.map_replicate, fold_int, fold_ints, fold_u8, fold_u8s, lv4])
    | (refine WpC.regM dm4 rfl rfl (by decide +kernel) fol ?_; simp -implicitDefEqProofs -dsimp [dm4, -List.map_set, -List.map_append, -List.map_replicate, fold_int, fold_ints, fold_u8, fold_u8s, lv4])
    | (refine WpC.regQ dq4 rfl rfl (by decide +kernel) fol ?_; simp -implicitDefEqProofs -dsimp [dq4, -List.map_set, -List.map_append, -List.map_replicate, fold_int, fold_ints, fold_u8, fold_u8s, lv4])
    | (refine WpC.skipC rfl ?_; try simp -implicitDefEqProofs -dsimp [-List.map_set, -List.map_append, -List.map_replicate, fold_int, fold_ints, fold_u8, fold_u8s, lv4])
    | (refine WpC.retC rfl ?_; try simp -implicitDefEqProofs -dsimp [-List.map_set, -List.map_append, -List.map_replicate, fold_int, fold_ints, fold_u8, fold_u8s, lv4])
    | (refine WpC.exitC rfl ?_; try simp -implicitDefEqProofs -dsimp [-List.map_set, -List.map_append, -List.map_replicate, fold_int, fold_ints, fold_u8, fold_u8s, lv4])
    | (refine WpC.condK rfl ?_; simp -implicitDefEqProofs -dsimp [-List.map_set, -List.map_append, -List.map_replicate, fold_int, fold_ints, fold_u8, fold_u8s, lv4])
    | with_reducible refine And.intro (fun _ => ?_) (fun _ => ?_)
    | (with_reducible refine And.intro (by omega) ?_))
  refine WpC.loopC rfl (fun s => s.1 ≤ l.length ∧ s.2.length ≤ 8) (fun s => ([(2, .sl false (l.flatMap sy) l.length), (7, .ref 1 0), (8, .v (.bool (decide (need ≤ cnt 1 s.2)))), (9, .v (.bool (decide (cnt 1 s.2 + cnt 0 s.2 < need)))), (10, int s.1)],
    [.cells true (s.2.map int), obj true 0 s.2 need])) (fun s => l.length - s.1) (0, none0 nodes) ⟨by simp, by simp only; omega⟩ ?_ ?_
  · refine Gh.envL ?_
    simp -implicitDefEqProofs -dsimp [-List.map_set, -List.map_append, -List.map_replicate, fold_int, fold_ints, fold_u8, fold_u8s, obMp, keepG, List.idxOf?_cons, leM, envL, i64w]
  · rintro ⟨i, s⟩ ⟨hi, hs⟩ R' hR1 hR2
    simp only at hi hs hR1 ⊢
    repeat' (first
    | refine WpC.seqC lv4 rfl ?_
    | refine WpC.blockC rfl ?_
    | (refine WpC.reg rfl rfl ?_; simp -implicitDefEqProofs -dsimp [-List.map_set, -List.map_append, -List.map_replicate, fold_int, fold_ints, fold_u8, fold_u8s, lv4])
    | (refine WpC.regP rfl (by decide +kernel) fol (by decide +kernel) (by decide +kernel) ?_; simp -implicitDefEqProofs -dsimp [-List.map_set, -List.map_append, -List.map_replicate, fold_int, fold_ints, fold_u8, fold_u8s, lv4])
    | (refine WpC.regI dr4 rfl rfl (by decide +kernel) fol ?_; simp -implicitDefEqProofs -dsimp [dr4, -List.map_set, -List.map_append, -List.map_replicate, fold_int, fold_ints, fold_u8, fold_u8s, lv4])
    | (refine WpC.regM dm4 rfl rfl (by decide +kernel) fol ?_; simp -implicitDefEqProofs -dsimp [dm4, -List.map_set, -List.map_append, -List.map_replicate, fold_int, fold_ints, fold_u8, fold_u8s, lv4])
    | (refine WpC.regQ dq4 rfl rfl (by decide +kernel) fol ?_; simp -implicitDefEqProofs -dsimp [dq4, -List.map_set, -List.map_append, -List.map_replicate, fold_int, fold_ints, fold_u8, fold_u8s, lv4])
    | (refine WpC.skipC rfl ?_; try simp -implicitDefEqProofs -dsimp [-List.map_set, -List.map_append, -List.map_replicate, fold_int, fold_ints, fold_u8, fold_u8s, lv4])
    | (refine WpC.retC rfl ?_; try simp -implicitDefEqProofs -dsimp [-List.map_set, -List.map_append, -List.map_replicate, fold_int, fold_ints, fold_u8, fold_u8s, lv4])
    | (refine WpC.exitC rfl ?_; try simp -implicitDefEqProofs -dsimp [-List.map_set, -List.map_append, -List.map_replicate, fold_int, fold_ints, fold_u8, fold_u8s, lv4])
    | (refine WpC.condK rfl ?_; simp -implicitDefEqProofs -dsimp [-List.map_set, -List.map_append, -List.map_replicate, fold_int, fold_ints, fold_u8, fold_u8s, lv4])
    | with_reducible refine And.intro (fun _ => ?_) (fun _ => ?_)
    | (with_reducible refine And.intro (by omega) ?_))
    · refine hR2 _ _ _ (by simp) ?_
      simp -implicitDefEqProofs -dsimp [-List.map_set, -List.map_append, -List.map_replicate, fold_int, fold_ints, fold_u8, fold_u8s, lv4]
      refine (hR _ _ ?_).1; simp -implicitDefEqProofs -dsimp [-List.map_set, -List.map_append, -List.map_replicate, fold_int, fold_ints, fold_u8, fold_u8s, Try.f4, envL]
    · refine CallX.by4 (lsay (rd l i) s need hs (by omega)) false [1, 0] 6 (by simp) (by simp) (by simp) (by simp -implicitDefEqProofs [-List.map_set, -List.map_append, -List.map_replicate, fold_int, fold_ints, fold_u8, fold_u8s, rs, rsOb, List.idxOf?_cons]) (by simp -implicitDefEqProofs [-List.map_set, -List.map_append, -List.map_replicate, fold_int, fold_ints, fold_u8, fold_u8s, rs, rsOb, List.idxOf?_cons]) ?_; rintro m T' ⟨rfl, rfl⟩ -; simp -implicitDefEqProofs -dsimp [-List.map_set, -List.map_append, -List.map_replicate, fold_int, fold_ints, fold_u8, fold_u8s, frOb, obMp, setAll, setOb, gMap, lv4]
      have hs2 := says_length (wh (rd l i).1) (rd l i).2 s
      have hc := says_cnt (wh (rd l i).1) (wh_or _) (rd l i).2 s
      generalize says (wh (rd l i).1) (rd l i).2 s = u at hs2 hc ⊢
      have hu : u.length ≤ 8 := by omega
      have k0 := cnt_lo 0 s
      have k1 := cnt_lo 0 u
      have hcase : (need ≤ cnt 1 s ∧ ¬ cnt 1 s + cnt 0 s < need ∧ need ≤ cnt 1 u ∧ ¬ cnt 1 u + cnt 0 u < need) ∨ (¬ need ≤ cnt 1 s ∧ cnt 1 s + cnt 0 s < need ∧ ¬ need ≤ cnt 1 u ∧ cnt 1 u + cnt 0 u < need) ∨
          (¬ need ≤ cnt 1 s ∧ ¬ cnt 1 s + cnt 0 s < need ∧ need ≤ cnt 1 u ∧ ¬ cnt 1 u + cnt 0 u < need) ∨ (¬ need ≤ cnt 1 s ∧ ¬ cnt 1 s + cnt 0 s < need ∧ ¬ need ≤ cnt 1 u) := by omega
      rcases hcase with ⟨c1, c2, c3, c4⟩ | ⟨c1, c2, c3, c4⟩ | ⟨c1, c2, c3, c4⟩ | ⟨c1, c2, c3⟩
      · repeat' (first
    | refine WpC.seqC lv4 rfl ?_
    | refine WpC.blockC rfl ?_
    | (refine WpC.reg rfl rfl ?_; simp -implicitDefEqProofs -dsimp [-List.map_set, -List.map_append, -List.map_replicate, fold_int, fold_ints, fold_u8, fold_u8s, lv4, c1, c2, c3, c4])
    | (refine WpC.regP rfl (by decide +kernel) fol (by decide +kernel) (by decide +kernel) ?_; simp -implicitDefEqProofs -dsimp [-List.map_set, -List.map_append, -List.map_replicate, fold_int, fold_ints, fold_u8, fold_u8s, lv4, c1, c2, c3, c4])
    | (refine WpC.regI dr4 rfl rfl (by decide +kernel) fol ?_; simp -implicitDefEqProofs -dsimp [dr4, -List.map_set, -List.map_append, -List.map_replicate, fold_int, fold_ints, fold_u8, fold_u8s, lv4, c1, c2, c3, c4])
    | (refine WpC.regM dm4 rfl rfl (by decide +kernel) fol ?_; simp -implicitDefEqProofs -dsimp [dm4, -List.map_set, -List.map_append, -List.map_replicate, fold_int, fold_ints, fold_u8, fold_u8s, lv4, c1, c2, c3, c4])
    | (refine WpC.regQ dq4 rfl rfl (by decide +kernel) fol ?_; simp -implicitDefEqProofs -dsimp [dq4, -List.map_set, -List.map_append, -List.map_replicate, fold_int, fold_ints, fold_u8, fold_u8s, lv4, c1, c2, c3, c4])
    | (refine WpC.skipC rfl ?_; try simp -implicitDefEqProofs -dsimp [-List.map_set, -List.map_append, -List.map_replicate, fold_int, fold_ints, fold_u8, fold_u8s, lv4, c1, c2, c3, c4])
    | (refine WpC.retC rfl ?_; try simp -implicitDefEqProofs -dsimp [-List.map_set, -List.map_append, -List.map_replicate, fold_int, fold_ints, fold_u8, fold_u8s, lv4, c1, c2, c3, c4])
    | (refine WpC.exitC rfl ?_; try simp -implicitDefEqProofs -dsimp [-List.map_set, -List.map_append, -List.map_replicate, fold_int, fold_ints, fold_u8, fold_u8s, lv4, c1, c2, c3, c4])
    | (refine WpC.condK rfl ?_; simp -implicitDefEqProofs -dsimp [-List.map_set, -List.map_append, -List.map_replicate, fold_int, fold_ints, fold_u8, fold_u8s, lv4, c1, c2, c3, c4])
    | with_reducible refine And.intro (fun _ => ?_) (fun _ => ?_)
    | (with_reducible refine And.intro (by omega) ?_))
        refine CallX.by4 (Done u need) false [] 6 (by simp) (by simp) (by simp) (by simp -implicitDefEqProofs [-List.map_set, -List.map_append, -List.map_replicate, fold_int, fold_ints, fold_u8, fold_u8s, rs, rsOb, List.idxOf?_cons, c1, c2, c3, c4]) (by simp -implicitDefEqProofs [-List.map_set, -List.map_append, -List.map_replicate, fold_int, fold_ints, fold_u8, fold_u8s, rs, rsOb, List.idxOf?_cons, c1, c2, c3, c4]) ?_; rintro m T' ⟨rfl, rfl⟩ -; simp -implicitDefEqProofs -dsimp [-List.map_set, -List.map_append, -List.map_replicate, fold_int, fold_ints, fold_u8, fold_u8s, frOb, obMp, setAll, setOb, gMap, lv4, c1, c2, c3, c4]
        refine CallX.by4 (Done u need) false [] 6 (by simp) (by simp) (by simp) (by simp -implicitDefEqProofs [-List.map_set, -List.map_append, -List.map_replicate, fold_int, fold_ints, fold_u8, fold_u8s, rs, rsOb, List.idxOf?_cons, c1, c2, c3, c4]) (by simp -implicitDefEqProofs [-List.map_set, -List.map_append, -List.map_replicate, fold_int, fold_ints, fold_u8, fold_u8s, rs, rsOb, List.idxOf?_cons, c1, c2, c3, c4]) ?_; rintro m T' ⟨rfl, rfl⟩ -; simp -implicitDefEqProofs -dsimp [-List.map_set, -List.map_append, -List.map_replicate, fold_int, fold_ints, fold_u8, fold_u8s, frOb, obMp, setAll, setOb, gMap, lv4, c1, c2, c3, c4]
        refine CallX.by4 (Lost u need hu) false [] 6 (by simp) (by simp) (by simp) (by simp -implicitDefEqProofs [-List.map_set, -List.map_append, -List.map_replicate, fold_int, fold_ints, fold_u8, fold_u8s, rs, rsOb, List.idxOf?_cons, c1, c2, c3, c4]) (by simp -implicitDefEqProofs [-List.map_set, -List.map_append, -List.map_replicate, fold_int, fold_ints, fold_u8, fold_u8s, rs, rsOb, List.idxOf?_cons, c1, c2, c3, c4]) ?_; rintro m T' ⟨rfl, rfl⟩ -; simp -implicitDefEqProofs -dsimp [-List.map_set, -List.map_append, -List.map_replicate, fold_int, fold_ints, fold_u8, fold_u8s, frOb, obMp, setAll, setOb, gMap, lv4, c1, c2, c3, c4]
        repeat' (first
    | refine WpC.seqC lv4 rfl ?_
    | refine WpC.blockC rfl ?_
    | (refine WpC.reg rfl rfl ?_; simp -implicitDefEqProofs -dsimp [-List.map_set, -List.map_append, -List.map_replicate, fold_int, fold_ints, fold_u8, fold_u8s, lv4, c1, c2, c3, c4])
    | (refine WpC.regP rfl (by decide +kernel) fol (by decide +kernel) (by decide +kernel) ?_; simp -implicitDefEqProofs -dsimp [-List.map_set, -List.map_append, -List.map_replicate, fold_int, fold_ints, fold_u8, fold_u8s, lv4, c1, c2, c3, c4])
    | (refine WpC.regI dr4 rfl rfl (by decide +kernel) fol ?_; simp -implicitDefEqProofs -dsimp [dr4, -List.map_set, -List.map_append, -List.map_replicate, fold_int, fold_ints, fold_u8, fold_u8s, lv4, c1, c2, c3, c4])
    | (refine WpC.regM dm4 rfl rfl (by decide +kernel) fol ?_; simp -implicitDefEqProofs -dsimp [dm4, -List.map_set, -List.map_append, -List.map_replicate, fold_int, fold_ints, fold_u8, fold_u8s, lv4, c1, c2, c3, c4])
    | (refine WpC.regQ dq4 rfl rfl (by decide +kernel) fol ?_; simp -implicitDefEqProofs -dsimp [dq4, -List.map_set, -List.map_append, -List.map_replicate, fold_int, fold_ints, fold_u8, fold_u8s, lv4, c1, c2, c3, c4])
    | (refine WpC.skipC rfl ?_; try simp -implicitDefEqProofs -dsimp [-List.map_set, -List.map_append, -List.map_replicate, fold_int, fold_ints, fold_u8, fold_u8s, lv4, c1, c2, c3, c4])
    | (refine WpC.retC rfl ?_; try simp -implicitDefEqProofs -dsimp [-List.map_set, -List.map_append, -List.map_replicate, fold_int, fold_ints, fold_u8, fold_u8s, lv4, c1, c2, c3, c4])
    | (refine WpC.exitC rfl ?_; try simp -implicitDefEqProofs -dsimp [-List.map_set, -List.map_append, -List.map_replicate, fold_int, fold_ints, fold_u8, fold_u8s, lv4, c1, c2, c3, c4])
    | (refine WpC.condK rfl ?_; simp -implicitDefEqProofs -dsimp [-List.map_set, -List.map_append, -List.map_replicate, fold_int, fold_ints, fold_u8, fold_u8s, lv4, c1, c2, c3, c4])
    | with_reducible refine And.intro (fun _ => ?_) (fun _ => ?_)
    | (with_reducible refine And.intro (by omega) ?_))
        refine CallX.by4 (Done u need) false [] 6 (by simp) (by simp) (by simp) (by simp -implicitDefEqProofs [-List.map_set, -List.map_append, -List.map_replicate, fold_int, fold_ints, fold_u8, fold_u8s, rs, rsOb, List.idxOf?_cons, c1, c2, c3, c4]) (by simp -implicitDefEqProofs [-List.map_set, -List.map_append, -List.map_replicate, fold_int, fold_ints, fold_u8, fold_u8s, rs, rsOb, List.idxOf?_cons, c1, c2, c3, c4]) ?_; rintro m T' ⟨rfl, rfl⟩ -; simp -implicitDefEqProofs -dsimp [-List.map_set, -List.map_append, -List.map_replicate, fold_int, fold_ints, fold_u8, fold_u8s, frOb, obMp, setAll, setOb, gMap, lv4, c1, c2, c3, c4]
        repeat' (first
    | refine WpC.seqC lv4 rfl ?_
    | refine WpC.blockC rfl ?_
    | (refine WpC.reg rfl rfl ?_; simp -implicitDefEqProofs -dsimp [-List.map_set, -List.map_append, -List.map_replicate, fold_int, fold_ints, fold_u8, fold_u8s, lv4, c1, c2, c3, c4])
    | (refine WpC.regP rfl (by decide +kernel) fol (by decide +kernel) (by decide +kernel) ?_; simp -implicitDefEqProofs -dsimp [-List.map_set, -List.map_append, -List.map_replicate, fold_int, fold_ints, fold_u8, fold_u8s, lv4, c1, c2, c3, c4])
    | (refine WpC.regI dr4 rfl rfl (by decide +kernel) fol ?_; simp -implicitDefEqProofs -dsimp [dr4, -List.map_set, -List.map_append, -List.map_replicate, fold_int, fold_ints, fold_u8, fold_u8s, lv4, c1, c2, c3, c4])
    | (refine WpC.regM dm4 rfl rfl (by decide +kernel) fol ?_; simp -implicitDefEqProofs -dsimp [dm4, -List.map_set, -List.map_append, -List.map_replicate, fold_int, fold_ints, fold_u8, fold_u8s, lv4, c1, c2, c3, c4])
    | (refine WpC.regQ dq4 rfl rfl (by decide +kernel) fol ?_; simp -implicitDefEqProofs -dsimp [dq4, -List.map_set, -List.map_append, -List.map_replicate, fold_int, fold_ints, fold_u8, fold_u8s, lv4, c1, c2, c3, c4])
    | (refine WpC.skipC rfl ?_; try simp -implicitDefEqProofs -dsimp [-List.map_set, -List.map_append, -List.map_replicate, fold_int, fold_ints, fold_u8, fold_u8s, lv4, c1, c2, c3, c4])
    | (refine WpC.retC rfl ?_; try simp -implicitDefEqProofs -dsimp [-List.map_set, -List.map_append, -List.map_replicate, fold_int, fold_ints, fold_u8, fold_u8s, lv4, c1, c2, c3, c4])
    | (refine WpC.exitC rfl ?_; try simp -implicitDefEqProofs -dsimp [-List.map_set, -List.map_append, -List.map_replicate, fold_int, fold_ints, fold_u8, fold_u8s, lv4, c1, c2, c3, c4])
    | (refine WpC.condK rfl ?_; simp -implicitDefEqProofs -dsimp [-List.map_set, -List.map_append, -List.map_replicate, fold_int, fold_ints, fold_u8, fold_u8s, lv4, c1, c2, c3, c4])
    | with_reducible refine And.intro (fun _ => ?_) (fun _ => ?_)
    | (with_reducible refine And.intro (by omega) ?_))
        refine CallX.by4 (Lost u need hu) false [] 6 (by simp) (by simp) (by simp) (by simp -implicitDefEqProofs [-List.map_set, -List.map_append, -List.map_replicate, fold_int, fold_ints, fold_u8, fold_u8s, rs, rsOb, List.idxOf?_cons, c1, c2, c3, c4]) (by simp -implicitDefEqProofs [-List.map_set, -List.map_append, -List.map_replicate, fold_int, fold_ints, fold_u8, fold_u8s, rs, rsOb, List.idxOf?_cons, c1, c2, c3, c4]) ?_; rintro m T' ⟨rfl, rfl⟩ -; simp -implicitDefEqProofs -dsimp [-List.map_set, -List.map_append, -List.map_replicate, fold_int, fold_ints, fold_u8, fold_u8s, frOb, obMp, setAll, setOb, gMap, lv4, c1, c2, c3, c4]
        repeat' (first
    | refine WpC.seqC lv4 rfl ?_
    | refine WpC.blockC rfl ?_
    | (refine WpC.reg rfl rfl ?_; simp -implicitDefEqProofs -dsimp [-List.map_set, -List.map_append, -List.map_replicate, fold_int, fold_ints, fold_u8, fold_u8s, lv4, c1, c2, c3, c4])
    | (refine WpC.regP rfl (by decide +kernel) fol (by decide +kernel) (by decide +kernel) ?_; simp -implicitDefEqProofs -dsimp [-List.map_set, -List.map_append, -List.map_replicate, fold_int, fold_ints, fold_u8, fold_u8s, lv4, c1, c2, c3, c4])
    | (refine WpC.regI dr4 rfl rfl (by decide +kernel) fol ?_; simp -implicitDefEqProofs -dsimp [dr4, -List.map_set, -List.map_append, -List.map_replicate, fold_int, fold_ints, fold_u8, fold_u8s, lv4, c1, c2, c3, c4])
    | (refine WpC.regM dm4 rfl rfl (by decide +kernel) fol ?_; simp -implicitDefEqProofs -dsimp [dm4, -List.map_set, -List.map_append, -List.map_replicate, fold_int, fold_ints, fold_u8, fold_u8s, lv4, c1, c2, c3, c4])
    | (refine WpC.regQ dq4 rfl rfl (by decide +kernel) fol ?_; simp -implicitDefEqProofs -dsimp [dq4, -List.map_set, -List.map_append, -List.map_replicate, fold_int, fold_ints, fold_u8, fold_u8s, lv4, c1, c2, c3, c4])
    | (refine WpC.skipC rfl ?_; try simp -implicitDefEqProofs -dsimp [-List.map_set, -List.map_append, -List.map_replicate, fold_int, fold_ints, fold_u8, fold_u8s, lv4, c1, c2, c3, c4])
    | (refine WpC.retC rfl ?_; try simp -implicitDefEqProofs -dsimp [-List.map_set, -List.map_append, -List.map_replicate, fold_int, fold_ints, fold_u8, fold_u8s, lv4, c1, c2, c3, c4])
    | (refine WpC.exitC rfl ?_; try simp -implicitDefEqProofs -dsimp [-List.map_set, -List.map_append, -List.map_replicate, fold_int, fold_ints, fold_u8, fold_u8s, lv4, c1, c2, c3, c4])
    | (refine WpC.condK rfl ?_; simp -implicitDefEqProofs -dsimp [-List.map_set, -List.map_append, -List.map_replicate, fold_int, fold_ints, fold_u8, fold_u8s, lv4, c1, c2, c3, c4])
    | with_reducible refine And.intro (fun _ => ?_) (fun _ => ?_)
    | (with_reducible refine And.intro (by omega) ?_))
        refine hR1 (i + 1, u) _ _ ⟨by simp only; omega, hu⟩ (Gh.round [0, 1] (by simp) (by simp) rfl (by simp -implicitDefEqProofs -dsimp [-List.map_set, -List.map_append, -List.map_replicate, fold_int, fold_ints, fold_u8, fold_u8s, obMp, keepG, List.idxOf?_cons, leM, envL, i64w, c1, c2, c3, c4] <;> (try simp (disch := omega) only [i64w])) (by simp -implicitDefEqProofs -dsimp [-List.map_set, -List.map_append, -List.map_replicate, fold_int, fold_ints, fold_u8, fold_u8s, obMp, keepG, List.idxOf?_cons, leM, envL, i64w, c1, c2, c3, c4] <;> (try simp (disch := omega) only [i64w]))) (by simp only; omega)
      · repeat' (first
    | refine WpC.seqC lv4 rfl ?_
    | refine WpC.blockC rfl ?_
    | (refine WpC.reg rfl rfl ?_; simp -implicitDefEqProofs -dsimp [-List.map_set, -List.map_append, -List.map_replicate, fold_int, fold_ints, fold_u8, fold_u8s, lv4, c1, c2, c3, c4])
    | (refine WpC.regP rfl (by decide +kernel) fol (by decide +kernel) (by decide +kernel) ?_; simp -implicitDefEqProofs -dsimp [-List.map_set, -List.map_append, -List.map_replicate, fold_int, fold_ints, fold_u8, fold_u8s, lv4, c1, c2, c3, c4])
    | (refine WpC.regI dr4 rfl rfl (by decide +kernel) fol ?_; simp -implicitDefEqProofs -dsimp [dr4, -List.map_set, -List.map_append, -List.map_replicate, fold_int, fold_ints, fold_u8, fold_u8s, lv4, c1, c2, c3, c4])
    | (refine WpC.regM dm4 rfl rfl (by decide +kernel) fol ?_; simp -implicitDefEqProofs -dsimp [dm4, -List.map_set, -List.map_append, -List.map_replicate, fold_int, fold_ints, fold_u8, fold_u8s, lv4, c1, c2, c3, c4])
    | (refine WpC.regQ dq4 rfl rfl (by decide +kernel) fol ?_; simp -implicitDefEqProofs -dsimp [dq4, -List.map_set, -List.map_append, -List.map_replicate, fold_int, fold_ints, fold_u8, fold_u8s, lv4, c1, c2, c3, c4])
    | (refine WpC.skipC rfl ?_; try simp -implicitDefEqProofs -dsimp [-List.map_set, -List.map_append, -List.map_replicate, fold_int, fold_ints, fold_u8, fold_u8s, lv4, c1, c2, c3, c4])
    | (refine WpC.retC rfl ?_; try simp -implicitDefEqProofs -dsimp [-List.map_set, -List.map_append, -List.map_replicate, fold_int, fold_ints, fold_u8, fold_u8s, lv4, c1, c2, c3, c4])
    | (refine WpC.exitC rfl ?_; try simp -implicitDefEqProofs -dsimp [-List.map_set, -List.map_append, -List.map_replicate, fold_int, fold_ints, fold_u8, fold_u8s, lv4, c1, c2, c3, c4])
    | (refine WpC.condK rfl ?_; simp -implicitDefEqProofs -dsimp [-List.map_set, -List.map_append, -List.map_replicate, fold_int, fold_ints, fold_u8, fold_u8s, lv4, c1, c2, c3, c4])
    | with_reducible refine And.intro (fun _ => ?_) (fun _ => ?_)
    | (with_reducible refine And.intro (by omega) ?_))
        refine CallX.by4 (Lost u need hu) false [] 6 (by simp) (by simp) (by simp) (by simp -implicitDefEqProofs [-List.map_set, -List.map_append, -List.map_replicate, fold_int, fold_ints, fold_u8, fold_u8s, rs, rsOb, List.idxOf?_cons, c1, c2, c3, c4]) (by simp -implicitDefEqProofs [-List.map_set, -List.map_append, -List.map_replicate, fold_int, fold_ints, fold_u8, fold_u8s, rs, rsOb, List.idxOf?_cons, c1, c2, c3, c4]) ?_; rintro m T' ⟨rfl, rfl⟩ -; simp -implicitDefEqProofs -dsimp [-List.map_set, -List.map_append, -List.map_replicate, fold_int, fold_ints, fold_u8, fold_u8s, frOb, obMp, setAll, setOb, gMap, lv4, c1, c2, c3, c4]
        refine CallX.by4 (Done u need) false [] 6 (by simp) (by simp) (by simp) (by simp -implicitDefEqProofs [-List.map_set, -List.map_append, -List.map_replicate, fold_int, fold_ints, fold_u8, fold_u8s, rs, rsOb, List.idxOf?_cons, c1, c2, c3, c4]) (by simp -implicitDefEqProofs [-List.map_set, -List.map_append, -List.map_replicate, fold_int, fold_ints, fold_u8, fold_u8s, rs, rsOb, List.idxOf?_cons, c1, c2, c3, c4]) ?_; rintro m T' ⟨rfl, rfl⟩ -; simp -implicitDefEqProofs -dsimp [-List.map_set, -List.map_append, -List.map_replicate, fold_int, fold_ints, fold_u8, fold_u8s, frOb, obMp, setAll, setOb, gMap, lv4, c1, c2, c3, c4]
        repeat' (first
    | refine WpC.seqC lv4 rfl ?_
    | refine WpC.blockC rfl ?_
    | (refine WpC.reg rfl rfl ?_; simp -implicitDefEqProofs -dsimp [-List.map_set, -List.map_append, -List.map_replicate, fold_int, fold_ints, fold_u8, fold_u8s, lv4, c1, c2, c3, c4])
    | (refine WpC.regP rfl (by decide +kernel) fol (by decide +kernel) (by decide +kernel) ?_; simp -implicitDefEqProofs -dsimp [-List.map_set, -List.map_append, -List.map_replicate, fold_int, fold_ints, fold_u8, fold_u8s, lv4, c1, c2, c3, c4])
    | (refine WpC.regI dr4 rfl rfl (by decide +kernel) fol ?_; simp -implicitDefEqProofs -dsimp [dr4, -List.map_set, -List.map_append, -List.map_replicate, fold_int, fold_ints, fold_u8, fold_u8s, lv4, c1, c2, c3, c4])
    | (refine WpC.regM dm4 rfl rfl (by decide +kernel) fol ?_; simp -implicitDefEqProofs -dsimp [dm4, -List.map_set, -List.map_append, -List.map_replicate, fold_int, fold_ints, fold_u8, fold_u8s, lv4, c1, c2, c3, c4])
    | (refine WpC.regQ dq4 rfl rfl (by decide +kernel) fol ?_; simp -implicitDefEqProofs -dsimp [dq4, -List.map_set, -List.map_append, -List.map_replicate, fold_int, fold_ints, fold_u8, fold_u8s, lv4, c1, c2, c3, c4])
    | (refine WpC.skipC rfl ?_; try simp -implicitDefEqProofs -dsimp [-List.map_set, -List.map_append, -List.map_replicate, fold_int, fold_ints, fold_u8, fold_u8s, lv4, c1, c2, c3, c4])
    | (refine WpC.retC rfl ?_; try simp -implicitDefEqProofs -dsimp [-List.map_set, -List.map_append, -List.map_replicate, fold_int, fold_ints, fold_u8, fold_u8s, lv4, c1, c2, c3, c4])
    | (refine WpC.exitC rfl ?_; try simp -implicitDefEqProofs -dsimp [-List.map_set, -List.map_append, -List.map_replicate, fold_int, fold_ints, fold_u8, fold_u8s, lv4, c1, c2, c3, c4])
    | (refine WpC.condK rfl ?_; simp -implicitDefEqProofs -dsimp [-List.map_set, -List.map_append, -List.map_replicate, fold_int, fold_ints, fold_u8, fold_u8s, lv4, c1, c2, c3, c4])
    | with_reducible refine And.intro (fun _ => ?_) (fun _ => ?_)
    | (with_reducible refine And.intro (by omega) ?_))
        refine CallX.by4 (Done u need) false [] 6 (by simp) (by simp) (by simp) (by simp -implicitDefEqProofs [-List.map_set, -List.map_append, -List.map_replicate, fold_int, fold_ints, fold_u8, fold_u8s, rs, rsOb, List.idxOf?_cons, c1, c2, c3, c4]) (by simp -implicitDefEqProofs [-List.map_set, -List.map_append, -List.map_replicate, fold_int, fold_ints, fold_u8, fold_u8s, rs, rsOb, List.idxOf?_cons, c1, c2, c3, c4]) ?_; rintro m T' ⟨rfl, rfl⟩ -; simp -implicitDefEqProofs -dsimp [-List.map_set, -List.map_append, -List.map_replicate, fold_int, fold_ints, fold_u8, fold_u8s, frOb, obMp, setAll, setOb, gMap, lv4, c1, c2, c3, c4]
        repeat' (first
    | refine WpC.seqC lv4 rfl ?_
    | refine WpC.blockC rfl ?_
    | (refine WpC.reg rfl rfl ?_; simp -implicitDefEqProofs -dsimp [-List.map_set, -List.map_append, -List.map_replicate, fold_int, fold_ints, fold_u8, fold_u8s, lv4, c1, c2, c3, c4])
    | (refine WpC.regP rfl (by decide +kernel) fol (by decide +kernel) (by decide +kernel) ?_; simp -implicitDefEqProofs -dsimp [-List.map_set, -List.map_append, -List.map_replicate, fold_int, fold_ints, fold_u8, fold_u8s, lv4, c1, c2, c3, c4])
    | (refine WpC.regI dr4 rfl rfl (by decide +kernel) fol ?_; simp -implicitDefEqProofs -dsimp [dr4, -List.map_set, -List.map_append, -List.map_replicate, fold_int, fold_ints, fold_u8, fold_u8s, lv4, c1, c2, c3, c4])
    | (refine WpC.regM dm4 rfl rfl (by decide +kernel) fol ?_; simp -implicitDefEqProofs -dsimp [dm4, -List.map_set, -List.map_append, -List.map_replicate, fold_int, fold_ints, fold_u8, fold_u8s, lv4, c1, c2, c3, c4])
    | (refine WpC.regQ dq4 rfl rfl (by decide +kernel) fol ?_; simp -implicitDefEqProofs -dsimp [dq4, -List.map_set, -List.map_append, -List.map_replicate, fold_int, fold_ints, fold_u8, fold_u8s, lv4, c1, c2, c3, c4])
    | (refine WpC.skipC rfl ?_; try simp -implicitDefEqProofs -dsimp [-List.map_set, -List.map_append, -List.map_replicate, fold_int, fold_ints, fold_u8, fold_u8s, lv4, c1, c2, c3, c4])
    | (refine WpC.retC rfl ?_; try simp -implicitDefEqProofs -dsimp [-List.map_set, -List.map_append, -List.map_replicate, fold_int, fold_ints, fold_u8, fold_u8s, lv4, c1, c2, c3, c4])
    | (refine WpC.exitC rfl ?_; try simp -implicitDefEqProofs -dsimp [-List.map_set, -List.map_append, -List.map_replicate, fold_int, fold_ints, fold_u8, fold_u8s, lv4, c1, c2, c3, c4])
    | (refine WpC.condK rfl ?_; simp -implicitDefEqProofs -dsimp [-List.map_set, -List.map_append, -List.map_replicate, fold_int, fold_ints, fold_u8, fold_u8s, lv4, c1, c2, c3, c4])
    | with_reducible refine And.intro (fun _ => ?_) (fun _ => ?_)
    | (with_reducible refine And.intro (by omega) ?_))
        refine CallX.by4 (Lost u need hu) false [] 6 (by simp) (by simp) (by simp) (by simp -implicitDefEqProofs [-List.map_set, -List.map_append, -List.map_replicate, fold_int, fold_ints, fold_u8, fold_u8s, rs, rsOb, List.idxOf?_cons, c1, c2, c3, c4]) (by simp -implicitDefEqProofs [-List.map_set, -List.map_append, -List.map_replicate, fold_int, fold_ints, fold_u8, fold_u8s, rs, rsOb, List.idxOf?_cons, c1, c2, c3, c4]) ?_; rintro m T' ⟨rfl, rfl⟩ -; simp -implicitDefEqProofs -dsimp [-List.map_set, -List.map_append, -List.map_replicate, fold_int, fold_ints, fold_u8, fold_u8s, frOb, obMp, setAll, setOb, gMap, lv4, c1, c2, c3, c4]
        repeat' (first
    | refine WpC.seqC lv4 rfl ?_
    | refine WpC.blockC rfl ?_
    | (refine WpC.reg rfl rfl ?_; simp -implicitDefEqProofs -dsimp [-List.map_set, -List.map_append, -List.map_replicate, fold_int, fold_ints, fold_u8, fold_u8s, lv4, c1, c2, c3, c4])
    | (refine WpC.regP rfl (by decide +kernel) fol (by decide +kernel) (by decide +kernel) ?_; simp -implicitDefEqProofs -dsimp [-List.map_set, -List.map_append, -List.map_replicate, fold_int, fold_ints, fold_u8, fold_u8s, lv4, c1, c2, c3, c4])
    | (refine WpC.regI dr4 rfl rfl (by decide +kernel) fol ?_; simp -implicitDefEqProofs -dsimp [dr4, -List.map_set, -List.map_append, -List.map_replicate, fold_int, fold_ints, fold_u8, fold_u8s, lv4, c1, c2, c3, c4])
    | (refine WpC.regM dm4 rfl rfl (by decide +kernel) fol ?_; simp -implicitDefEqProofs -dsimp [dm4, -List.map_set, -List.map_append, -List.map_replicate, fold_int, fold_ints, fold_u8, fold_u8s, lv4, c1, c2, c3, c4])
    | (refine WpC.regQ dq4 rfl rfl (by decide +kernel) fol ?_; simp -implicitDefEqProofs -dsimp [dq4, -List.map_set, -List.map_append, -List.map_replicate, fold_int, fold_ints, fold_u8, fold_u8s, lv4, c1, c2, c3, c4])
    | (refine WpC.skipC rfl ?_; try simp -implicitDefEqProofs -dsimp [-List.map_set, -List.map_append, -List.map_replicate, fold_int, fold_ints, fold_u8, fold_u8s, lv4, c1, c2, c3, c4])
    | (refine WpC.retC rfl ?_; try simp -implicitDefEqProofs -dsimp [-List.map_set, -List.map_append, -List.map_replicate, fold_int, fold_ints, fold_u8, fold_u8s, lv4, c1, c2, c3, c4])
    | (refine WpC.exitC rfl ?_; try simp -implicitDefEqProofs -dsimp [-List.map_set, -List.map_append, -List.map_replicate, fold_int, fold_ints, fold_u8, fold_u8s, lv4, c1, c2, c3, c4])
    | (refine WpC.condK rfl ?_; simp -implicitDefEqProofs -dsimp [-List.map_set, -List.map_append, -List.map_replicate, fold_int, fold_ints, fold_u8, fold_u8s, lv4, c1, c2, c3, c4])
    | with_reducible refine And.intro (fun _ => ?_) (fun _ => ?_)
    | (with_reducible refine And.intro (by omega) ?_))
        refine hR1 (i + 1, u) _ _ ⟨by simp only; omega, hu⟩ (Gh.round [0, 1] (by simp) (by simp) rfl (by simp -implicitDefEqProofs -dsimp [-List.map_set, -List.map_append, -List.map_replicate, fold_int, fold_ints, fold_u8, fold_u8s, obMp, keepG, List.idxOf?_cons, leM, envL, i64w, c1, c2, c3, c4] <;> (try simp (disch := omega) only [i64w])) (by simp -implicitDefEqProofs -dsimp [-List.map_set, -List.map_append, -List.map_replicate, fold_int, fold_ints, fold_u8, fold_u8s, obMp, keepG, List.idxOf?_cons, leM, envL, i64w, c1, c2, c3, c4] <;> (try simp (disch := omega) only [i64w]))) (by simp only; omega)
      · repeat' (first
    | refine WpC.seqC lv4 rfl ?_
    | refine WpC.blockC rfl ?_
    | (refine WpC.reg rfl rfl ?_; simp -implicitDefEqProofs -dsimp [-List.map_set, -List.map_append, -List.map_replicate, fold_int, fold_ints, fold_u8, fold_u8s, lv4, c1, c2, c3, c4])
    | (refine WpC.regP rfl (by decide +kernel) fol (by decide +kernel) (by decide +kernel) ?_; simp -implicitDefEqProofs -dsimp [-List.map_set, -List.map_append, -List.map_replicate, fold_int, fold_ints, fold_u8, fold_u8s, lv4, c1, c2, c3, c4])
    | (refine WpC.regI dr4 rfl rfl (by decide +kernel) fol ?_; simp -implicitDefEqProofs -dsimp [dr4, -List.map_set, -List.map_append, -List.map_replicate, fold_int, fold_ints, fold_u8, fold_u8s, lv4, c1, c2, c3, c4])
    | (refine WpC.regM dm4 rfl rfl (by decide +kernel) fol ?_; simp -implicitDefEqProofs -dsimp [dm4, -List.map_set, -List.map_append, -List.map_replicate, fold_int, fold_ints, fold_u8, fold_u8s, lv4, c1, c2, c3, c4])
    | (refine WpC.regQ dq4 rfl rfl (by decide +kernel) fol ?_; simp -implicitDefEqProofs -dsimp [dq4, -List.map_set, -List.map_append, -List.map_replicate, fold_int, fold_ints, fold_u8, fold_u8s, lv4, c1, c2, c3, c4])
    | (refine WpC.skipC rfl ?_; try simp -implicitDefEqProofs -dsimp [-List.map_set, -List.map_append, -List.map_replicate, fold_int, fold_ints, fold_u8, fold_u8s, lv4, c1, c2, c3, c4])
    | (refine WpC.retC rfl ?_; try simp -implicitDefEqProofs -dsimp [-List.map_set, -List.map_append, -List.map_replicate, fold_int, fold_ints, fold_u8, fold_u8s, lv4, c1, c2, c3, c4])
    | (refine WpC.exitC rfl ?_; try simp -implicitDefEqProofs -dsimp [-List.map_set, -List.map_append, -List.map_replicate, fold_int, fold_ints, fold_u8, fold_u8s, lv4, c1, c2, c3, c4])
    | (refine WpC.condK rfl ?_; simp -implicitDefEqProofs -dsimp [-List.map_set, -List.map_append, -List.map_replicate, fold_int, fold_ints, fold_u8, fold_u8s, lv4, c1, c2, c3, c4])
    | with_reducible refine And.intro (fun _ => ?_) (fun _ => ?_)
    | (with_reducible refine And.intro (by omega) ?_))
        refine CallX.by4 (Done u need) false [] 6 (by simp) (by simp) (by simp) (by simp -implicitDefEqProofs [-List.map_set, -List.map_append, -List.map_replicate, fold_int, fold_ints, fold_u8, fold_u8s, rs, rsOb, List.idxOf?_cons, c1, c2, c3, c4]) (by simp -implicitDefEqProofs [-List.map_set, -List.map_append, -List.map_replicate, fold_int, fold_ints, fold_u8, fold_u8s, rs, rsOb, List.idxOf?_cons, c1, c2, c3, c4]) ?_; rintro m T' ⟨rfl, rfl⟩ -; simp -implicitDefEqProofs -dsimp [-List.map_set, -List.map_append, -List.map_replicate, fold_int, fold_ints, fold_u8, fold_u8s, frOb, obMp, setAll, setOb, gMap, lv4, c1, c2, c3, c4]
        refine CallX.by4 (Lost u need hu) false [] 6 (by simp) (by simp) (by simp) (by simp -implicitDefEqProofs [-List.map_set, -List.map_append, -List.map_replicate, fold_int, fold_ints, fold_u8, fold_u8s, rs, rsOb, List.idxOf?_cons, c1, c2, c3, c4]) (by simp -implicitDefEqProofs [-List.map_set, -List.map_append, -List.map_replicate, fold_int, fold_ints, fold_u8, fold_u8s, rs, rsOb, List.idxOf?_cons, c1, c2, c3, c4]) ?_; rintro m T' ⟨rfl, rfl⟩ -; simp -implicitDefEqProofs -dsimp [-List.map_set, -List.map_append, -List.map_replicate, fold_int, fold_ints, fold_u8, fold_u8s, frOb, obMp, setAll, setOb, gMap, lv4, c1, c2, c3, c4]
        repeat' (first
    | refine WpC.seqC lv4 rfl ?_
    | refine WpC.blockC rfl ?_
    | (refine WpC.reg rfl rfl ?_; simp -implicitDefEqProofs -dsimp [-List.map_set, -List.map_append, -List.map_replicate, fold_int, fold_ints, fold_u8, fold_u8s, lv4, c1, c2, c3, c4])
    | (refine WpC.regP rfl (by decide +kernel) fol (by decide +kernel) (by decide +kernel) ?_; simp -implicitDefEqProofs -dsimp [-List.map_set, -List.map_append, -List.map_replicate, fold_int, fold_ints, fold_u8, fold_u8s, lv4, c1, c2, c3, c4])
    | (refine WpC.regI dr4 rfl rfl (by decide +kernel) fol ?_; simp -implicitDefEqProofs -dsimp [dr4, -List.map_set, -List.map_append, -List.map_replicate, fold_int, fold_ints, fold_u8, fold_u8s, lv4, c1, c2, c3, c4])
    | (refine WpC.regM dm4 rfl rfl (by decide +kernel) fol ?_; simp -implicitDefEqProofs -dsimp [dm4, -List.map_set, -List.map_append, -List.map_replicate, fold_int, fold_ints, fold_u8, fold_u8s, lv4, c1, c2, c3, c4])
    | (refine WpC.regQ dq4 rfl rfl (by decide +kernel) fol ?_; simp -implicitDefEqProofs -dsimp [dq4, -List.map_set, -List.map_append, -List.map_replicate, fold_int, fold_ints, fold_u8, fold_u8s, lv4, c1, c2, c3, c4])
    | (refine WpC.skipC rfl ?_; try simp -implicitDefEqProofs -dsimp [-List.map_set, -List.map_append, -List.map_replicate, fold_int, fold_ints, fold_u8, fold_u8s, lv4, c1, c2, c3, c4])
    | (refine WpC.retC rfl ?_; try simp -implicitDefEqProofs -dsimp [-List.map_set, -List.map_append, -List.map_replicate, fold_int, fold_ints, fold_u8, fold_u8s, lv4, c1, c2, c3, c4])
    | (refine WpC.exitC rfl ?_; try simp -implicitDefEqProofs -dsimp [-List.map_set, -List.map_append, -List.map_replicate, fold_int, fold_ints, fold_u8, fold_u8s, lv4, c1, c2, c3, c4])
    | (refine WpC.condK rfl ?_; simp -implicitDefEqProofs -dsimp [-List.map_set, -List.map_append, -List.map_replicate, fold_int, fold_ints, fold_u8, fold_u8s, lv4, c1, c2, c3, c4])
    | with_reducible refine And.intro (fun _ => ?_) (fun _ => ?_)
    | (with_reducible refine And.intro (by omega) ?_))
        refine CallX.by4 (Done u need) false [] 6 (by simp) (by simp) (by simp) (by simp -implicitDefEqProofs [-List.map_set, -List.map_append, -List.map_replicate, fold_int, fold_ints, fold_u8, fold_u8s, rs, rsOb, List.idxOf?_cons, c1, c2, c3, c4]) (by simp -implicitDefEqProofs [-List.map_set, -List.map_append, -List.map_replicate, fold_int, fold_ints, fold_u8, fold_u8s, rs, rsOb, List.idxOf?_cons, c1, c2, c3, c4]) ?_; rintro m T' ⟨rfl, rfl⟩ -; simp -implicitDefEqProofs -dsimp [-List.map_set, -List.map_append, -List.map_replicate, fold_int, fold_ints, fold_u8, fold_u8s, frOb, obMp, setAll, setOb, gMap, lv4, c1, c2, c3, c4]
        repeat' (first
    | refine WpC.seqC lv4 rfl ?_
    | refine WpC.blockC rfl ?_
    | (refine WpC.reg rfl rfl ?_; simp -implicitDefEqProofs -dsimp [-List.map_set, -List.map_append, -List.map_replicate, fold_int, fold_ints, fold_u8, fold_u8s, lv4, c1, c2, c3, c4])
    | (refine WpC.regP rfl (by decide +kernel) fol (by decide +kernel) (by decide +kernel) ?_; simp -implicitDefEqProofs -dsimp [-List.map_set, -List.map_append, -List.map_replicate, fold_int, fold_ints, fold_u8, fold_u8s, lv4, c1, c2, c3, c4])
    | (refine WpC.regI dr4 rfl rfl (by decide +kernel) fol ?_; simp -implicitDefEqProofs -dsimp [dr4, -List.map_set, -List.map_append, -List.map_replicate, fold_int, fold_ints, fold_u8, fold_u8s, lv4, c1, c2, c3, c4])
    | (refine WpC.regM dm4 rfl rfl (by decide +kernel) fol ?_; simp -implicitDefEqProofs -dsimp [dm4, -List.map_set, -List.map_append, -List.map_replicate, fold_int, fold_ints, fold_u8, fold_u8s, lv4, c1, c2, c3, c4])
    | (refine WpC.regQ dq4 rfl rfl (by decide +kernel) fol ?_; simp -implicitDefEqProofs -dsimp [dq4, -List.map_set, -List.map_append, -List.map_replicate, fold_int, fold_ints, fold_u8, fold_u8s, lv4, c1, c2, c3, c4])
    | (refine WpC.skipC rfl ?_; try simp -implicitDefEqProofs -dsimp [-List.map_set, -List.map_append, -List.map_replicate, fold_int, fold_ints, fold_u8, fold_u8s, lv4, c1, c2, c3, c4])
    | (refine WpC.retC rfl ?_; try simp -implicitDefEqProofs -dsimp [-List.map_set, -List.map_append, -List.map_replicate, fold_int, fold_ints, fold_u8, fold_u8s, lv4, c1, c2, c3, c4])
    | (refine WpC.exitC rfl ?_; try simp -implicitDefEqProofs -dsimp [-List.map_set, -List.map_append, -List.map_replicate, fold_int, fold_ints, fold_u8, fold_u8s, lv4, c1, c2, c3, c4])
    | (refine WpC.condK rfl ?_; simp -implicitDefEqProofs -dsimp [-List.map_set, -List.map_append, -List.map_replicate, fold_int, fold_ints, fold_u8, fold_u8s, lv4, c1, c2, c3, c4])
    | with_reducible refine And.intro (fun _ => ?_) (fun _ => ?_)
    | (with_reducible refine And.intro (by omega) ?_))
        refine CallX.by4 (Lost u need hu) false [] 6 (by simp) (by simp) (by simp) (by simp -implicitDefEqProofs [-List.map_set, -List.map_append, -List.map_replicate, fold_int, fold_ints, fold_u8, fold_u8s, rs, rsOb, List.idxOf?_cons, c1, c2, c3, c4]) (by simp -implicitDefEqProofs [-List.map_set, -List.map_append, -List.map_replicate, fold_int, fold_ints, fold_u8, fold_u8s, rs, rsOb, List.idxOf?_cons, c1, c2, c3, c4]) ?_; rintro m T' ⟨rfl, rfl⟩ -; simp -implicitDefEqProofs -dsimp [-List.map_set, -List.map_append, -List.map_replicate, fold_int, fold_ints, fold_u8, fold_u8s, frOb, obMp, setAll, setOb, gMap, lv4, c1, c2, c3, c4]
        repeat' (first
    | refine WpC.seqC lv4 rfl ?_
    | refine WpC.blockC rfl ?_
    | (refine WpC.reg rfl rfl ?_; simp -implicitDefEqProofs -dsimp [-List.map_set, -List.map_append, -List.map_replicate, fold_int, fold_ints, fold_u8, fold_u8s, lv4, c1, c2, c3, c4])
    | (refine WpC.regP rfl (by decide +kernel) fol (by decide +kernel) (by decide +kernel) ?_; simp -implicitDefEqProofs -dsimp [-List.map_set, -List.map_append, -List.map_replicate, fold_int, fold_ints, fold_u8, fold_u8s, lv4, c1, c2, c3, c4])
    | (refine WpC.regI dr4 rfl rfl (by decide +kernel) fol ?_; simp -implicitDefEqProofs -dsimp [dr4, -List.map_set, -List.map_append, -List.map_replicate, fold_int, fold_ints, fold_u8, fold_u8s, lv4, c1, c2, c3, c4])
    | (refine WpC.regM dm4 rfl rfl (by decide +kernel) fol ?_; simp -implicitDefEqProofs -dsimp [dm4, -List.map_set, -List.map_append, -List.map_replicate, fold_int, fold_ints, fold_u8, fold_u8s, lv4, c1, c2, c3, c4])
    | (refine WpC.regQ dq4 rfl rfl (by decide +kernel) fol ?_; simp -implicitDefEqProofs -dsimp [dq4, -List.map_set, -List.map_append, -List.map_replicate, fold_int, fold_ints, fold_u8, fold_u8s, lv4, c1, c2, c3, c4])
    | (refine WpC.skipC rfl ?_; try simp -implicitDefEqProofs -dsimp [-List.map_set, -List.map_append, -List.map_replicate, fold_int, fold_ints, fold_u8, fold_u8s, lv4, c1, c2, c3, c4])
    | (refine WpC.retC rfl ?_; try simp -implicitDefEqProofs -dsimp [-List.map_set, -List.map_append, -List.map_replicate, fold_int, fold_ints, fold_u8, fold_u8s, lv4, c1, c2, c3, c4])
    | (refine WpC.exitC rfl ?_; try simp -implicitDefEqProofs -dsimp [-List.map_set, -List.map_append, -List.map_replicate, fold_int, fold_ints, fold_u8, fold_u8s, lv4, c1, c2, c3, c4])
    | (refine WpC.condK rfl ?_; simp -implicitDefEqProofs -dsimp [-List.map_set, -List.map_append, -List.map_replicate, fold_int, fold_ints, fold_u8, fold_u8s, lv4, c1, c2, c3, c4])
    | with_reducible refine And.intro (fun _ => ?_) (fun _ => ?_)
    | (with_reducible refine And.intro (by omega) ?_))
        refine hR1 (i + 1, u) _ _ ⟨by simp only; omega, hu⟩ (Gh.round [0, 1] (by simp) (by simp) rfl (by simp -implicitDefEqProofs -dsimp [-List.map_set, -List.map_append, -List.map_replicate, fold_int, fold_ints, fold_u8, fold_u8s, obMp, keepG, List.idxOf?_cons, leM, envL, i64w, c1, c2, c3, c4] <;> (try simp (disch := omega) only [i64w])) (by simp -implicitDefEqProofs -dsimp [-List.map_set, -List.map_append, -List.map_replicate, fold_int, fold_ints, fold_u8, fold_u8s, obMp, keepG, List.idxOf?_cons, leM, envL, i64w, c1, c2, c3, c4] <;> (try simp (disch := omega) only [i64w]))) (by simp only; omega)
      · repeat' (first
    | refine WpC.seqC lv4 rfl ?_
    | refine WpC.blockC rfl ?_
    | (refine WpC.reg rfl rfl ?_; simp -implicitDefEqProofs -dsimp [-List.map_set, -List.map_append, -List.map_replicate, fold_int, fold_ints, fold_u8, fold_u8s, lv4, c1, c2, c3])
    | (refine WpC.regP rfl (by decide +kernel) fol (by decide +kernel) (by decide +kernel) ?_; simp -implicitDefEqProofs -dsimp [-List.map_set, -List.map_append, -List.map_replicate, fold_int, fold_ints, fold_u8, fold_u8s, lv4, c1, c2, c3])
    | (refine WpC.regI dr4 rfl rfl (by decide +kernel) fol ?_; simp -implicitDefEqProofs -dsimp [dr4, -List.map_set, -List.map_append, -List.map_replicate, fold_int, fold_ints, fold_u8, fold_u8s, lv4, c1, c2, c3])
    | (refine WpC.regM dm4 rfl rfl (by decide +kernel) fol ?_; simp -implicitDefEqProofs -dsimp [dm4, -List.map_set, -List.map_append, -List.map_replicate, fold_int, fold_ints, fold_u8, fold_u8s, lv4, c1, c2, c3])
    | (refine WpC.regQ dq4 rfl rfl (by decide +kernel) fol ?_; simp -implicitDefEqProofs -dsimp [dq4, -List.map_set, -List.map_append, -List.map_replicate, fold_int, fold_ints, fold_u8, fold_u8s, lv4, c1, c2, c3])
    | (refine WpC.skipC rfl ?_; try simp -implicitDefEqProofs -dsimp [-List.map_set, -List.map_append, -List.map_replicate, fold_int, fold_ints, fold_u8, fold_u8s, lv4, c1, c2, c3])
    | (refine WpC.retC rfl ?_; try simp -implicitDefEqProofs -dsimp [-List.map_set, -List.map_append, -List.map_replicate, fold_int, fold_ints, fold_u8, fold_u8s, lv4, c1, c2, c3])
    | (refine WpC.exitC rfl ?_; try simp -implicitDefEqProofs -dsimp [-List.map_set, -List.map_append, -List.map_replicate, fold_int, fold_ints, fold_u8, fold_u8s, lv4, c1, c2, c3])
    | (refine WpC.condK rfl ?_; simp -implicitDefEqProofs -dsimp [-List.map_set, -List.map_append, -List.map_replicate, fold_int, fold_ints, fold_u8, fold_u8s, lv4, c1, c2, c3])
    | with_reducible refine And.intro (fun _ => ?_) (fun _ => ?_)
    | (with_reducible refine And.intro (by omega) ?_))
        refine CallX.by4 (Done u need) false [] 6 (by simp) (by simp) (by simp) (by simp -implicitDefEqProofs [-List.map_set, -List.map_append, -List.map_replicate, fold_int, fold_ints, fold_u8, fold_u8s, rs, rsOb, List.idxOf?_cons, c1, c2, c3]) (by simp -implicitDefEqProofs [-List.map_set, -List.map_append, -List.map_replicate, fold_int, fold_ints, fold_u8, fold_u8s, rs, rsOb, List.idxOf?_cons, c1, c2, c3]) ?_; rintro m T' ⟨rfl, rfl⟩ -; simp -implicitDefEqProofs -dsimp [-List.map_set, -List.map_append, -List.map_replicate, fold_int, fold_ints, fold_u8, fold_u8s, frOb, obMp, setAll, setOb, gMap, lv4, c1, c2, c3]
        repeat' (first
    | refine WpC.seqC lv4 rfl ?_
    | refine WpC.blockC rfl ?_
    | (refine WpC.reg rfl rfl ?_; simp -implicitDefEqProofs -dsimp [-List.map_set, -List.map_append, -List.map_replicate, fold_int, fold_ints, fold_u8, fold_u8s, lv4, c1, c2, c3])
    | (refine WpC.regP rfl (by decide +kernel) fol (by decide +kernel) (by decide +kernel) ?_; simp -implicitDefEqProofs -dsimp [-List.map_set, -List.map_append, -List.map_replicate, fold_int, fold_ints, fold_u8, fold_u8s, lv4, c1, c2, c3])
    | (refine WpC.regI dr4 rfl rfl (by decide +kernel) fol ?_; simp -implicitDefEqProofs -dsimp [dr4, -List.map_set, -List.map_append, -List.map_replicate, fold_int, fold_ints, fold_u8, fold_u8s, lv4, c1, c2, c3])
    | (refine WpC.regM dm4 rfl rfl (by decide +kernel) fol ?_; simp -implicitDefEqProofs -dsimp [dm4, -List.map_set, -List.map_append, -List.map_replicate, fold_int, fold_ints, fold_u8, fold_u8s, lv4, c1, c2, c3])
    | (refine WpC.regQ dq4 rfl rfl (by decide +kernel) fol ?_; simp -implicitDefEqProofs -dsimp [dq4, -List.map_set, -List.map_append, -List.map_replicate, fold_int, fold_ints, fold_u8, fold_u8s, lv4, c1, c2, c3])
    | (refine WpC.skipC rfl ?_; try simp -implicitDefEqProofs -dsimp [-List.map_set, -List.map_append, -List.map_replicate, fold_int, fold_ints, fold_u8, fold_u8s, lv4, c1, c2, c3])
    | (refine WpC.retC rfl ?_; try simp -implicitDefEqProofs -dsimp [-List.map_set, -List.map_append, -List.map_replicate, fold_int, fold_ints, fold_u8, fold_u8s, lv4, c1, c2, c3])
    | (refine WpC.exitC rfl ?_; try simp -implicitDefEqProofs -dsimp [-List.map_set, -List.map_append, -List.map_replicate, fold_int, fold_ints, fold_u8, fold_u8s, lv4, c1, c2, c3])
    | (refine WpC.condK rfl ?_; simp -implicitDefEqProofs -dsimp [-List.map_set, -List.map_append, -List.map_replicate, fold_int, fold_ints, fold_u8, fold_u8s, lv4, c1, c2, c3])
    | with_reducible refine And.intro (fun _ => ?_) (fun _ => ?_)
    | (with_reducible refine And.intro (by omega) ?_))
        refine CallX.by4 (Done u need) false [] 6 (by simp) (by simp) (by simp) (by simp -implicitDefEqProofs [-List.map_set, -List.map_append, -List.map_replicate, fold_int, fold_ints, fold_u8, fold_u8s, rs, rsOb, List.idxOf?_cons, c1, c2, c3]) (by simp -implicitDefEqProofs [-List.map_set, -List.map_append, -List.map_replicate, fold_int, fold_ints, fold_u8, fold_u8s, rs, rsOb, List.idxOf?_cons, c1, c2, c3]) ?_; rintro m T' ⟨rfl, rfl⟩ -; simp -implicitDefEqProofs -dsimp [-List.map_set, -List.map_append, -List.map_replicate, fold_int, fold_ints, fold_u8, fold_u8s, frOb, obMp, setAll, setOb, gMap, lv4, c1, c2, c3]
        repeat' (first
    | refine WpC.seqC lv4 rfl ?_
    | refine WpC.blockC rfl ?_
    | (refine WpC.reg rfl rfl ?_; simp -implicitDefEqProofs -dsimp [-List.map_set, -List.map_append, -List.map_replicate, fold_int, fold_ints, fold_u8, fold_u8s, lv4, c1, c2, c3])
    | (refine WpC.regP rfl (by decide +kernel) fol (by decide +kernel) (by decide +kernel) ?_; simp -implicitDefEqProofs -dsimp [-List.map_set, -List.map_append, -List.map_replicate, fold_int, fold_ints, fold_u8, fold_u8s, lv4, c1, c2, c3])
    | (refine WpC.regI dr4 rfl rfl (by decide +kernel) fol ?_; simp -implicitDefEqProofs -dsimp [dr4, -List.map_set, -List.map_append, -List.map_replicate, fold_int, fold_ints, fold_u8, fold_u8s, lv4, c1, c2, c3])
    | (refine WpC.regM dm4 rfl rfl (by decide +kernel) fol ?_; simp -implicitDefEqProofs -dsimp [dm4, -List.map_set, -List.map_append, -List.map_replicate, fold_int, fold_ints, fold_u8, fold_u8s, lv4, c1, c2, c3])
    | (refine WpC.regQ dq4 rfl rfl (by decide +kernel) fol ?_; simp -implicitDefEqProofs -dsimp [dq4, -List.map_set, -List.map_append, -List.map_replicate, fold_int, fold_ints, fold_u8, fold_u8s, lv4, c1, c2, c3])
    | (refine WpC.skipC rfl ?_; try simp -implicitDefEqProofs -dsimp [-List.map_set, -List.map_append, -List.map_replicate, fold_int, fold_ints, fold_u8, fold_u8s, lv4, c1, c2, c3])
    | (refine WpC.retC rfl ?_; try simp -implicitDefEqProofs -dsimp [-List.map_set, -List.map_append, -List.map_replicate, fold_int, fold_ints, fold_u8, fold_u8s, lv4, c1, c2, c3])
    | (refine WpC.exitC rfl ?_; try simp -implicitDefEqProofs -dsimp [-List.map_set, -List.map_append, -List.map_replicate, fold_int, fold_ints, fold_u8, fold_u8s, lv4, c1, c2, c3])
    | (refine WpC.condK rfl ?_; simp -implicitDefEqProofs -dsimp [-List.map_set, -List.map_append, -List.map_replicate, fold_int, fold_ints, fold_u8, fold_u8s, lv4, c1, c2, c3])
    | with_reducible refine And.intro (fun _ => ?_) (fun _ => ?_)
    | (with_reducible refine And.intro (by omega) ?_))
        refine CallX.by4 (Lost u need hu) false [] 6 (by simp) (by simp) (by simp) (by simp -implicitDefEqProofs [-List.map_set, -List.map_append, -List.map_replicate, fold_int, fold_ints, fold_u8, fold_u8s, rs, rsOb, List.idxOf?_cons, c1, c2, c3]) (by simp -implicitDefEqProofs [-List.map_set, -List.map_append, -List.map_replicate, fold_int, fold_ints, fold_u8, fold_u8s, rs, rsOb, List.idxOf?_cons, c1, c2, c3]) ?_; rintro m T' ⟨rfl, rfl⟩ -; simp -implicitDefEqProofs -dsimp [-List.map_set, -List.map_append, -List.map_replicate, fold_int, fold_ints, fold_u8, fold_u8s, frOb, obMp, setAll, setOb, gMap, lv4, c1, c2, c3]
        repeat' (first
    | refine WpC.seqC lv4 rfl ?_
    | refine WpC.blockC rfl ?_
    | (refine WpC.reg rfl rfl ?_; simp -implicitDefEqProofs -dsimp [-List.map_set, -List.map_append, -List.map_replicate, fold_int, fold_ints, fold_u8, fold_u8s, lv4, c1, c2, c3])
    | (refine WpC.regP rfl (by decide +kernel) fol (by decide +kernel) (by decide +kernel) ?_; simp -implicitDefEqProofs -dsimp [-List.map_set, -List.map_append, -List.map_replicate, fold_int, fold_ints, fold_u8, fold_u8s, lv4, c1, c2, c3])
    | (refine WpC.regI dr4 rfl rfl (by decide +kernel) fol ?_; simp -implicitDefEqProofs -dsimp [dr4, -List.map_set, -List.map_append, -List.map_replicate, fold_int, fold_ints, fold_u8, fold_u8s, lv4, c1, c2, c3])
    | (refine WpC.regM dm4 rfl rfl (by decide +kernel) fol ?_; simp -implicitDefEqProofs -dsimp [dm4, -List.map_set, -List.map_append, -List.map_replicate, fold_int, fold_ints, fold_u8, fold_u8s, lv4, c1, c2, c3])
    | (refine WpC.regQ dq4 rfl rfl (by decide +kernel) fol ?_; simp -implicitDefEqProofs -dsimp [dq4, -List.map_set, -List.map_append, -List.map_replicate, fold_int, fold_ints, fold_u8, fold_u8s, lv4, c1, c2, c3])
    | (refine WpC.skipC rfl ?_; try simp -implicitDefEqProofs -dsimp [-List.map_set, -List.map_append, -List.map_replicate, fold_int, fold_ints, fold_u8, fold_u8s, lv4, c1, c2, c3])
    | (refine WpC.retC rfl ?_; try simp -implicitDefEqProofs -dsimp [-List.map_set, -List.map_append, -List.map_replicate, fold_int, fold_ints, fold_u8, fold_u8s, lv4, c1, c2, c3])
    | (refine WpC.exitC rfl ?_; try simp -implicitDefEqProofs -dsimp [-List.map_set, -List.map_append, -List.map_replicate, fold_int, fold_ints, fold_u8, fold_u8s, lv4, c1, c2, c3])
    | (refine WpC.condK rfl ?_; simp -implicitDefEqProofs -dsimp [-List.map_set, -List.map_append, -List.map_replicate, fold_int, fold_ints, fold_u8, fold_u8s, lv4, c1, c2, c3])
    | with_reducible refine And.intro (fun _ => ?_) (fun _ => ?_)
    | (with_reducible refine And.intro (by omega) ?_))
        refine hR1 (i + 1, u) _ _ ⟨by simp only; omega, hu⟩ (Gh.round [0, 1] (by simp) (by simp) rfl (by simp -implicitDefEqProofs -dsimp [-List.map_set, -List.map_append, -List.map_replicate, fold_int, fold_ints, fold_u8, fold_u8s, obMp, keepG, List.idxOf?_cons, leM, envL, i64w, c1, c2, c3] <;> (try simp (disch := omega) only [i64w])) (by simp -implicitDefEqProofs -dsimp [-List.map_set, -List.map_append, -List.map_replicate, fold_int, fold_ints, fold_u8, fold_u8s, obMp, keepG, List.idxOf?_cons, leM, envL, i64w, c1, c2, c3] <;> (try simp (disch := omega) only [i64w]))) (by simp only; omega)
    · refine hR2 _ _ _ (by simp) ?_
      simp -implicitDefEqProofs -dsimp [-List.map_set, -List.map_append, -List.map_replicate, fold_int, fold_ints, fold_u8, fold_u8s, lv4]
      repeat' (first
    | refine WpC.seqC lv4 rfl ?_
    | refine WpC.blockC rfl ?_
    | (refine WpC.reg rfl rfl ?_; simp -implicitDefEqProofs -dsimp [-List.map_set, -List.map_append, -List.map_replicate, fold_int, fold_ints, fold_u8, fold_u8s, lv4])
    | (refine WpC.regP rfl (by decide +kernel) fol (by decide +kernel) (by decide +kernel) ?_; simp -implicitDefEqProofs -dsimp [-List.map_set, -List.map_append, -List.map_replicate, fold_int, fold_ints, fold_u8, fold_u8s, lv4])
    | (refine WpC.regI dr4 rfl rfl (by decide +kernel) fol ?_; simp -implicitDefEqProofs -dsimp [dr4, -List.map_set, -List.map_append, -List.map_replicate, fold_int, fold_ints, fold_u8, fold_u8s, lv4])
    | (refine WpC.regM dm4 rfl rfl (by decide +kernel) fol ?_; simp -implicitDefEqProofs -dsimp [dm4, -List.map_set, -List.map_append, -List.map_replicate, fold_int, fold_ints, fold_u8, fold_u8s, lv4])
    | (refine WpC.regQ dq4 rfl rfl (by decide +kernel) fol ?_; simp -implicitDefEqProofs -dsimp [dq4, -List.map_set, -List.map_append, -List.map_replicate, fold_int, fold_ints, fold_u8, fold_u8s, lv4])
    | (refine WpC.skipC rfl ?_; try simp -implicitDefEqProofs -dsimp [-List.map_set, -List.map_append, -List.map_replicate, fold_int, fold_ints, fold_u8, fold_u8s, lv4])
    | (refine WpC.retC rfl ?_; try simp -implicitDefEqProofs -dsimp [-List.map_set, -List.map_append, -List.map_replicate, fold_int, fold_ints, fold_u8, fold_u8s, lv4])
    | (refine WpC.exitC rfl ?_; try simp -implicitDefEqProofs -dsimp [-List.map_set, -List.map_append, -List.map_replicate, fold_int, fold_ints, fold_u8, fold_u8s, lv4])
    | (refine WpC.condK rfl ?_; simp -implicitDefEqProofs -dsimp [-List.map_set, -List.map_append, -List.map_replicate, fold_int, fold_ints, fold_u8, fold_u8s, lv4])
    | with_reducible refine And.intro (fun _ => ?_) (fun _ => ?_)
    | (with_reducible refine And.intro (by omega) ?_))
      refine (hR _ _ ?_).1; simp -implicitDefEqProofs -dsimp [-List.map_set, -List.map_append, -List.map_replicate, fold_int, fold_ints, fold_u8, fold_u8s, Try.f4, envL]
end Go.Proofs.Ytpbgiccloeihcaa
