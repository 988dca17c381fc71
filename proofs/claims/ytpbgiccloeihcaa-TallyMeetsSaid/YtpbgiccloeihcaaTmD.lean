/- The tree logic, part MD: ends of functions and of rounds. -/
import Derived.Test.YtpbgiccloeihcaaTmC
import Derived.Test.YtpbgiccloeihcaaTlS
namespace Go.Tl
open Go.RowKit

/-- Let these blocks be trees, in this order. -/
def finK (T : Tbl) (m : M) : List Nat → (M → Tbl → Prop) → Prop
  | [], K => K m T
  | i :: is, K => blkK T i fun fr cs => fr = true ∧ clL cs = true ∧ finK ((T.set i .gone).map (frzOb i cs)) (frz i cs m) is K
theorem finK_nil {T : Tbl} {m : M} {K : M → Tbl → Prop} : finK T m [] K = K m T := rfl
theorem finK_cons {T : Tbl} {m : M} {i : Nat} {is : List Nat} {K : M → Tbl → Prop} : finK T m (i :: is) K = blkK T i fun fr cs => fr = true ∧ clL cs = true ∧ finK ((T.set i .gone).map (frzOb i cs)) (frz i cs m) is K := rfl

def keepT (n0 : Nat) (T : Tbl) : Tbl := (List.range n0).map fun i => obMp (keepG (List.range n0)) (T.getD i .gone)

theorem fin_ok {n0 : Nat} {K : M → Tbl → Prop} : ∀ (is : List Nat) {T : Tbl} {m : M}, (∀ i ∈ is, n0 ≤ i) →
    finK T m is (fun m T => n0 ≤ T.length ∧ K (m.mp (keepG (List.range n0))) (keepT n0 T)) → ∃ env' T'', Gh n0 (fun _ => m) T env' T'' ∧ K (env' 0) T''
  | [], T, m, _, h => by
    simp only [finK] at h
    refine ⟨_, _, Gh.keep (List.range n0) List.nodup_range ?_ ?_, h.2⟩
    · intro i hi
      have := List.mem_range.1 hi
      have := h.1
      omega
    · simp
  | i :: is, T, m, hi, h => by
    simp only [finK, blkK] at h
    split at h
    · rename_i fr cs hT
      obtain ⟨rfl, h2, h3⟩ := h
      obtain ⟨env', T'', h4, h5⟩ := fin_ok is (fun j hj => hi j (List.mem_cons_of_mem _ hj)) h3
      exact ⟨env', T'', (Gh.freeze i cs (hi i (List.mem_cons_self ..)) hT h2).trans h4, h5⟩
    · exact h.elim

theorem unfr_okT {w : World} {β : Nat → Option Nat} {ok ok' : Bool → Nat → Prop} {T T' : Tbl} (h : ∀ fr k, ok fr k → ok' false k) (hl : ∀ i, (isGone T i → isGone T' i) ∧ (live T i → live T' i)) :
    ∀ (m : M) (x : Value), Rep w β ok T m x → Rep w β ok' T' (unfr m) x := by
  have hnil : ∀ m x, Rep w β ok [] m x → Rep w β ok' [] (unfr m) x := unfr_ok h
  have key : (∀ m x, Rep w β ok T m x → Rep w β ok' T' (unfr m) x) := by
    intro m
    refine M.rec (motive_1 := fun m => ∀ x, Rep w β ok T m x → Rep w β ok' T' (unfr m) x) (motive_2 := fun ms => ∀ us, RepL w β ok T ms us → RepL w β ok' T' (unfrL ms) us) ?_ ?_ ?_ ?_ ?_ ?_ ?_ ?_ ?_ ?_ ?_ ?_ ?_ m
    · intro x _; simp [unfr, Rep]
    · intro y x hx; simpa [unfr, Rep] using hx
    · intro fr cs n _ x hx
      simp only [unfr, Rep] at hx ⊢
      rcases hx with ⟨h1, h2, h3⟩ | ⟨a, cap, us, rfl, h3, h4, h5, h6⟩
      · subst h2; exact .inl ⟨h1, by simp [unfrL], h3⟩
      · exact .inr ⟨a, cap, us, rfl, h3, h4, unfrL_ok h cs us h5, fun j u hj => ⟨h _ _ (h6 j u hj).1, (h6 j u hj).2⟩⟩
    · intro fr cs n _ x hx
      simp only [unfr, Rep] at hx ⊢
      obtain ⟨a, us, rfl, h5, h6⟩ := hx
      exact ⟨a, us, rfl, unfrL_ok h cs us h5, fun j u hj => ⟨h _ _ (h6 j u hj).1, (h6 j u hj).2⟩⟩
    · intro id off x hx
      simp only [unfr, Rep] at hx ⊢
      rcases hx with hx | ⟨h1, h2⟩
      · exact .inl ((hl id).1 hx)
      · exact .inr ⟨(hl id).2 h1, h2⟩
    · intro id off n sz x hx
      simp only [unfr, Rep] at hx ⊢
      rcases hx with hx | ⟨h1, h2⟩
      · exact .inl ((hl id).1 hx)
      · exact .inr ⟨(hl id).2 h1, h2⟩
    · intro x hx; simpa [unfr, Rep] using hx
    · intro f a b iha ihb x hx
      simp only [unfr, Rep] at hx ⊢
      obtain ⟨us, vs, rfl, h1, h2⟩ := hx
      exact ⟨us, vs, rfl, iha us h1, ihb vs h2⟩
    · intro t m ih x hx
      simp only [unfr, Rep] at hx ⊢
      obtain ⟨u, rfl, h1⟩ := hx
      exact ⟨u, rfl, ih u h1⟩
    · intro cs ih x hx
      simp only [unfr, Rep] at hx ⊢
      obtain ⟨us, rfl, h1⟩ := hx
      exact ⟨us, rfl, ih us h1⟩
    · intro cs ih x hx
      simp only [unfr, Rep] at hx ⊢
      obtain ⟨us, rfl, h1⟩ := hx
      exact ⟨us, rfl, ih us h1⟩
    · intro us hx; simpa [unfrL, RepL] using hx
    · intro m ms ihm ihs us hx
      simp only [unfrL, RepL] at hx ⊢
      obtain ⟨u, vs, rfl, h1, h2⟩ := hx
      exact ⟨u, vs, rfl, ihm u h1, ihs vs h2⟩
  exact key

theorem Gh.unfr {n0 : Nat} {env : Env} {T : Tbl} : Gh n0 env T (fun k => Tl.unfr (env k)) T := fun A w0 β0 T0 w β vals hn hP hE =>
  ⟨β, hP, fun k => unfr_okT (fun fr k hk => ⟨hk.1, hk.2.1, fun e => (by cases e), hk.2.2.2⟩) (fun i => ⟨id, id⟩) _ _ (hE k)⟩

theorem fin_unfr {n0 : Nat} {K : M → Tbl → Prop} (is : List Nat) {T : Tbl} {m : M} (hi : ∀ i ∈ is, n0 ≤ i)
    (h : finK T m is (fun m T => n0 ≤ T.length ∧ K (unfr (m.mp (keepG (List.range n0)))) (keepT n0 T))) : ∃ env' T'', Gh n0 (fun _ => m) T env' T'' ∧ K (env' 0) T'' := by
  obtain ⟨env', T'', h1, h2⟩ := fin_ok (K := fun m T => K (unfr m) T) is hi h
  exact ⟨_, T'', h1.trans Gh.unfr, h2⟩

section
variable {P : Program} {n n0 : Nat} {T T2 : Tbl} {Q : Exit → Env → Tbl → Prop} {env : Env} {fn : Func} {p : List Nat}

theorem Con.by {f : FuncId} {args : List M} {K : M → Tbl → Prop} (hf : P.funcs[f]? = some fn) (he : enterable P f = true) (hb : fn.body.isSome = true) (hn : args.length ≤ fn.ntmps)
    (h : ∀ R : Exit → Env → Tbl → Prop, (∀ env T', resL P env T' fn.results.toList (fun ms => K (tupM ms) T') → R .ret env T' ∧ R .normal env T') →
      (∀ is env T', (∀ i ∈ is, T.length ≤ i) → resL P env T' fn.results.toList (fun ms => finK T' (tupM ms) is fun m T2 => T.length ≤ T2.length ∧ K (m.mp (keepG (List.range T.length))) (keepT T.length T2)) → R .ret env T' ∧ R .normal env T') →
      (∀ is env T', (∀ i ∈ is, T.length ≤ i) → resL P env T' fn.results.toList (fun ms => finK T' (tupM ms) is fun m T2 => T.length ≤ T2.length ∧ K (unfr (m.mp (keepG (List.range T.length)))) (keepT T.length T2)) → R .ret env T' ∧ R .normal env T') →
      WpC P fn.ntmps T.length (cd fn []) R (envL (argL 0 args)) T) : Con P f args T K :=
  Con.of hf he hb hn fun R hR => h R (fun env T' hr => hR env T' (resL_mono _ (fun ms hk => ⟨_, _, Gh.refl _ _ _, hk⟩) hr))
    (fun is env T' his hr => hR env T' (resL_mono _ (fun ms hk => fin_ok is his hk) hr))
    (fun is env T' his hr => hR env T' (resL_mono _ (fun ms hk => fin_unfr is his hk) hr))

/-- Keep these blocks; the slots as said. -/
theorem Gh.round {l : Lst} (src : List Nat) (hnd : src.Nodup) (hlt : ∀ i ∈ src, i < T.length) (h0 : src.take n0 = List.range n0) (hT : (src.map fun i => obMp (keepG src) (T.getD i .gone)) = T2)
    (hl : ∀ p ∈ l, leM ((env p.1).mp (keepG src)) p.2) : Gh n0 env T (Tl.envL l) T2 := by
  have h1 := Gh.keep (env := env) (T := T) src hnd hlt h0
  rw [hT] at h1
  exact h1.trans (Gh.envL hl)

/-- A nil slice for an empty one. -/
theorem Gh.begin {l : Lst} (d sz : Nat) (h : env d = .v (.slice none 0 0)) (hT : T ++ [.cells true []] = T2) (hl : ∀ p ∈ l, leM (if p.1 = d then .sr T.length 0 0 sz else env p.1) p.2) : Gh n0 env T (Tl.envL l) T2 := by
  have h1 := Gh.own (n0 := n0) (T := T) d sz h
  rw [hT] at h1
  exact h1.trans (Gh.envL hl)
end

theorem Post.weak {A : Nat → Prop} {w0 w : World} {β0 β : Nat → Option Nat} {T0 T : Tbl} (h : Post A w0 β0 T0 w β T) {id : Nat} {fr : Bool} {cs0 cs : List M} (hid : T[id]? = some (.cells fr cs0))
    (hr : ∀ us, RepL w β (okB w β T w0.heap.size A) T cs0 us → RepL w β (okB w β T w0.heap.size A) T cs us) (h0 : cs0 = [] → cs = []) : Move A w0 β0 T0 w β T w β (T.set id (.cells fr cs)) := by
  have hlive : live T id := ⟨fr, cs0, hid⟩
  have hlt := live_lt hlive
  have hiff : ∀ i, live (T.set id (.cells fr cs)) i ↔ live T i := fun i => by
    rw [live_set hlt]
    constructor
    · rintro (⟨_, h⟩ | ⟨rfl, _⟩)
      · exact h
      · exact hlive
    · intro h
      by_cases e : i = id
      · exact .inr ⟨e, fr, cs, rfl⟩
      · exact .inl ⟨e, h⟩
  have hl : Lasts w β (okB w β T w0.heap.size A) T w β (okB w β (T.set id (.cells fr cs)) w0.heap.size A) (T.set id (.cells fr cs)) :=
    ⟨fun fr k hk => ⟨⟨hk.1, fun i hi => hk.2.1 i ((hiff i).1 hi), hk.2.2⟩, rfl⟩, fun i hi => gone_set hlive hi, fun i hi => .inr ⟨(hiff i).2 hi, rfl, fun _ _ => rfl⟩⟩
  refine ⟨⟨h.os, h.tape, h.output, h.size, h.frame, ⟨fun i b hi hb => h.wf.bnd i b ((hiff i).1 hi) hb, fun i j b hi hj hb hb' => h.wf.inj i j b ((hiff i).1 hi) ((hiff j).1 hj) hb hb', fun i fr' cs' hc => ?_⟩,
    by rw [List.length_set]; exact h.len, fun i hi => ⟨fun hg => gone_set hlive ((h.old i hi).1 hg), fun hli => (h.old i hi).2 ((hiff i).1 hli)⟩, fun i b hi hli hb => h.new i b hi ((hiff i).1 hli) hb⟩, hl⟩
  by_cases e : i = id
  · subst e
    rw [List.getElem?_set_self hlt] at hc
    simp only [Option.some.injEq, Ob.cells.injEq] at hc
    obtain ⟨rfl, rfl⟩ := hc
    rcases h.wf.obj i fr cs0 hid with ⟨h1, h2⟩ | ⟨b, us, sp, t, h1, h2, h3, h4⟩
    · exact .inl ⟨h1, h0 h2⟩
    · exact .inr ⟨b, us, sp, t, h1, h2, h3, RepL.last hl _ _ (hr us h4)⟩
  · rw [List.getElem?_set_ne (Ne.symm e)] at hc
    rcases h.wf.obj i fr' cs' hc with h1 | ⟨b, us, sp, t, h1, h2, h3, h4⟩
    · exact .inl h1
    · exact .inr ⟨b, us, sp, t, h1, h2, h3, RepL.last hl _ _ h4⟩

/-- What a block holds need not be new. -/
theorem Gh.unfrAt {n0 : Nat} {env : Env} {T : Tbl} (i : Nat) {fr : Bool} {cs : List M} (hT : T[i]? = some (.cells fr cs)) : Gh n0 env T env (T.set i (.cells fr (unfrL cs))) := by
  intro A w0 β0 T0 w β vals hn hP hE
  have h3 := hP.weak hT (cs := unfrL cs) (fun us hus => by
    have h := unfr_okT (ok := okB w β T w0.heap.size A) (ok' := okB w β T w0.heap.size A) (T := T) (T' := T) (w := w) (β := β) (fun fr k hk => ⟨hk.1, hk.2.1, fun e => (by cases e), hk.2.2.2⟩) (fun i => ⟨id, id⟩) (.tup cs) (.tuple us.toArray) (by simp only [Rep]; exact ⟨us, rfl, hus⟩)
    simp only [Tl.unfr, Rep, Value.tuple.injEq] at h
    obtain ⟨us', h1, h2⟩ := h
    have : us = us' := by simpa using h1
    rw [this]; exact h2) (fun e => by subst e; rfl)
  exact ⟨_, h3.post, fun x => h3.rep (hE x)⟩

/-- A nil slice in a block, for an empty one. -/
theorem Gh.ownCell {n0 : Nat} {env : Env} {T : Tbl} (i k sz : Nat) {fr : Bool} {cs : List M} (hT : T[i]? = some (.cells fr cs)) (hk : cs[k]? = some (.v (.slice none 0 0))) :
    Gh n0 env T env ((T ++ [Ob.cells true []]).set i (.cells fr (cs.set k (.sr T.length 0 0 sz)))) := by
  intro A w0 β0 T0 w β vals hn hP hE
  obtain ⟨h1, h2⟩ := hP.phantom true
  have hlt : i < T.length := (List.getElem?_eq_some_iff.1 hT).1
  have hT' : (T ++ [Ob.cells true []])[i]? = some (.cells fr cs) := by rw [List.getElem?_append_left hlt]; exact hT
  have hkl : k < cs.length := (List.getElem?_eq_some_iff.1 hk).1
  have h3 := h1.weak hT' (cs := cs.set k (.sr T.length 0 0 sz)) (fun us hus => by
    obtain ⟨u, hu, hru⟩ := RepL.get hus hk
    have := RepL.set hus k (m := .sr T.length 0 0 sz) (u := u) (by
      simp only [Rep] at hru ⊢
      exact .inr ⟨live_append.2 (.inr ⟨rfl, true, [], rfl⟩), .inr ⟨trivial, none, hru⟩⟩)
    have e : us.set k u = us := by
      apply List.ext_getElem?
      intro j
      by_cases hj : k = j
      · subst hj; rw [List.getElem?_set_self (List.getElem?_eq_some_iff.1 hu).1, hu]
      · rw [List.getElem?_set_ne hj]
    rw [e] at this
    exact this) (fun e => by subst e; simp at hkl)
  exact ⟨_, h3.post, fun x => h3.rep (Rep.last h2 _ _ (hE x))⟩

theorem envL_mp {g : Nat → Option Nat} : ∀ (l : Lst), (fun k => (Tl.envL l k).mp g) = Tl.envL (l.map fun p => (p.1, p.2.mp g))
  | [] => rfl
  | (a, m) :: l => by
    funext k
    have := congrFun (envL_mp (g := g) l) k
    simp only [List.map_cons, Tl.envL] at this ⊢
    split <;> simp_all

/-- These blocks alone count from here on. -/
theorem WpC.drop {P : Program} {n n0 : Nat} {c : Code} {Q : Exit → Env → Tbl → Prop} {l : Lst} {T : Tbl} (src : List Nat) (hnd : src.Nodup) (hlt : ∀ i ∈ src, i < T.length) (h0 : src.take n0 = List.range n0)
    (h : WpC P n n0 c Q (envL (l.map fun p => (p.1, p.2.mp (keepG src)))) (src.map fun i => obMp (keepG src) (T.getD i .gone))) : WpC P n n0 c Q (envL l) T := by
  rw [← envL_mp] at h
  exact h.gh (Gh.keep src hnd hlt h0)

/-- What may be forgotten, case by case. -/
theorem leM_v {x y : Value} (h : x = y) : leM (.v x) (.v y) := h ▸ leM_refl _
theorem leM_int {k : IntKind} {x y : Int} (h : x = y) : leM (.v (.int k x)) (.v (.int k y)) := h ▸ leM_refl _
theorem leM_nil : leM (.v (.slice none 0 0)) (.sl true [] 0) := ⟨rfl, rfl⟩

theorem i64w {x : Int} (h0 : -9223372036854775808 ≤ x) (h1 : x ≤ 9223372036854775807) : IntKind.i64.wrap x = x := i64_in h0 h1
theorem leM_any' {m : M} : leM m .any = True := by simp [leM_any]
theorem mem_cons_all {α : Type} {a : α} {l : List α} {Q : α → Prop} : (∀ p ∈ a :: l, Q p) ↔ Q a ∧ ∀ p ∈ l, Q p := by simp
theorem fold_int {k : IntKind} {xs : List Int} {y : Int} : (xs.map fun x => M.v (.int k x)) ++ [.v (.int k y)] = (xs ++ [y]).map fun x => .v (.int k x) := by simp
theorem fold_ints {k : IntKind} {xs ys : List Int} : (xs.map fun x => M.v (.int k x)) ++ (ys.map fun x => M.v (.int k x)) = (xs ++ ys).map fun x => .v (.int k x) := by simp
/-! ### Rows of several cells. -/
theorem drop_flat {α β : Type} {f : α → List β} {w : Nat} (hf : ∀ x, (f x).length = w) : ∀ (xs : List α) (n : Nat), (xs.flatMap f).drop (n * w) = (xs.drop n).flatMap f
  | [], n => by simp
  | x :: xs, 0 => by simp
  | x :: xs, n + 1 => by
    rw [List.flatMap_cons, List.drop_append, hf x, List.drop_succ_cons, ← drop_flat hf xs n]
    have h1 : (n + 1) * w - w = n * w := by rw [Nat.succ_mul]; omega
    rw [h1, List.drop_eq_nil_of_le (by rw [hf x, Nat.succ_mul]; omega), List.nil_append]
theorem take_flat {α β : Type} {f : α → List β} {w : Nat} (hf : ∀ x, (f x).length = w) : ∀ (xs : List α) (n : Nat), (xs.flatMap f).take (n * w) = (xs.take n).flatMap f
  | [], n => by simp
  | x :: xs, 0 => by simp
  | x :: xs, n + 1 => by
    rw [List.flatMap_cons, List.take_append, hf x, List.take_succ_cons, List.flatMap_cons, ← take_flat hf xs n]
    have h1 : (n + 1) * w - w = n * w := by rw [Nat.succ_mul]; omega
    rw [h1, List.take_of_length_le (by rw [hf x, Nat.succ_mul]; omega)]
theorem len_flat {α β : Type} {f : α → List β} {w : Nat} (hf : ∀ x, (f x).length = w) : ∀ (xs : List α), (xs.flatMap f).length = xs.length * w
  | [] => by simp
  | x :: xs => by rw [List.flatMap_cons, List.length_append, hf x, len_flat hf xs, List.length_cons, Nat.succ_mul]; omega
theorem at_flat {α β : Type} [Inhabited α] {f : α → List β} {w : Nat} (hf : ∀ x, (f x).length = w) (xs : List α) (j i : Nat) (hi : i < w) (hj : j < xs.length) : (xs.flatMap f)[j * w + i]? = (f (rd xs j))[i]? := by
  rw [← List.getElem?_drop, drop_flat hf, List.drop_eq_getElem_cons hj, List.flatMap_cons, List.getElem?_append_left (by rw [hf]; exact hi), rd_lt hj]

section
variable {α : Type} [Inhabited α] {T : Tbl} {F : M → Prop} {f : α → List M} {xs : List α} {w j i : Nat}
theorem atM_flat (hf : ∀ x, (f x).length = w) (hi : i < w) : atM (xs.flatMap f) (j * w + i) F = (j < xs.length ∧ atM (f (rd xs j)) i F) := by
  by_cases hj : j < xs.length
  · simp only [atM, at_flat hf xs j i hi hj, hj, true_and]
  · have : (xs.flatMap f)[j * w + i]? = none := by
      rw [List.getElem?_eq_none]
      rw [len_flat hf]
      have := Nat.mul_le_mul_right w (Nat.le_of_not_lt hj)
      omega
    simp only [atM, this, hj, false_and]
theorem atM_flat0 (hf : ∀ x, (f x).length = w) (hi : 0 < w) : atM (xs.flatMap f) (j * w) F = (j < xs.length ∧ atM (f (rd xs j)) 0 F) := atM_flat (i := 0) hf hi
theorem ldA_flat {fr : Bool} (hf : ∀ x, (f x).length = w) (hi : 0 < w) : ldA w T (.ip fr (xs.flatMap f) (j * w)) F = (j < xs.length ∧ F (.agg (f (rd xs j)))) := by
  rw [ldA_ip, len_flat hf]
  by_cases hj : j < xs.length
  · have h1 : j * w + w ≤ xs.length * w := by
      have := Nat.mul_le_mul_right w (Nat.succ_le_of_lt hj)
      rw [Nat.succ_mul] at this; exact this
    have h2 : ((xs.flatMap f).drop (j * w)).take w = f (rd xs j) := by
      rw [drop_flat hf, List.drop_eq_getElem_cons hj, List.flatMap_cons, List.take_append_of_le_length (by rw [hf]; exact Nat.le_refl _), List.take_of_length_le (by rw [hf]; exact Nat.le_refl _), rd_lt hj]
    rw [h2]; simp [h1, hj]
  · have h1 : ¬ j * w + w ≤ xs.length * w := by
      have := Nat.mul_le_mul_right w (Nat.le_of_not_lt hj)
      omega
    simp [h1, hj]
end
theorem unfrL_flat {α : Type} {f : α → List M} : ∀ (xs : List α), unfrL (xs.flatMap f) = xs.flatMap fun x => unfrL (f x)
  | [] => rfl
  | x :: xs => by
    have app : ∀ (a b : List M), unfrL (a ++ b) = unfrL a ++ unfrL b := by
      intro a b
      induction a with
      | nil => rfl
      | cons m a ih => simp [ih]
    rw [List.flatMap_cons, List.flatMap_cons, app, unfrL_flat xs]
theorem list_of {α β : Type} {f : α → β} : ∀ {xs : List β}, (∀ x ∈ xs, ∃ a, x = f a) → ∃ l : List α, xs = l.map f
  | [], _ => ⟨[], rfl⟩
  | x :: xs, h => by
    obtain ⟨a, rfl⟩ := h x (List.mem_cons_self ..)
    obtain ⟨l, rfl⟩ := list_of (xs := xs) (fun y hy => h y (List.mem_cons_of_mem _ hy))
    exact ⟨a :: l, rfl⟩

/-! ### What a law is handed. -/
theorem tree_int {k : IntKind} {cs : List M} (h : Tree (.int k) cs) : ∃ n, cs = [.v (.int k n)] ∧ k.min ≤ n ∧ n ≤ k.max := h
theorem tree_ints {k : IntKind} {cs : List M} (h : Tree (.sl (.int k)) cs) : ∃ l : List Int, cs = [.sl false (l.map fun n => .v (.int k n)) l.length] ∧ l.length ≤ maxLen ∧ ∀ n ∈ l, k.min ≤ n ∧ n ≤ k.max := by
  obtain ⟨xss, rfl, hl, hx⟩ := h
  have : ∀ xss : List (List M), (∀ xs ∈ xss, Tree (.int k) xs) → ∃ l : List Int, xss.flatten = l.map (fun n => .v (.int k n)) ∧ l.length = xss.length ∧ ∀ n ∈ l, k.min ≤ n ∧ n ≤ k.max := by
    intro xss
    induction xss with
    | nil => intro _; exact ⟨[], rfl, rfl, by simp⟩
    | cons xs xss ih =>
      intro h
      obtain ⟨n, rfl, h1⟩ := h xs (List.mem_cons_self ..)
      obtain ⟨l, h2, h3, h4⟩ := ih fun y hy => h y (List.mem_cons_of_mem _ hy)
      refine ⟨n :: l, by simp [h2], by simp [h3], fun m hm => ?_⟩
      rcases List.mem_cons.1 hm with rfl | hm
      · exact h1
      · exact h4 m hm
  obtain ⟨l, h2, h3, h4⟩ := this xss hx
  exact ⟨l, by rw [h2, h3], by rw [h3]; exact hl, h4⟩
theorem tree_rows {α : Type} {e : Sh} {cs : List M} {f : α → List M} (h : Tree (.sl e) cs) (hf : ∀ xs, Tree e xs → ∃ a, xs = f a) : ∃ l : List α, cs = [.sl false (l.flatMap f) l.length] ∧ l.length ≤ maxLen ∧ ∀ a ∈ l, Tree e (f a) := by
  obtain ⟨xss, rfl, hl, hx⟩ := h
  obtain ⟨l, rfl⟩ := list_of (xs := xss) (f := f) fun xs hxs => hf xs (hx xs hxs)
  refine ⟨l, ?_, by simpa using hl, fun a ha => hx _ (List.mem_map_of_mem ha)⟩
  rw [List.length_map, List.flatMap_def]
theorem fold_u8 {xs : List Int} {y : Int} : (xs.map fun x => M.v (.int .u8 x)) ++ [.v (.int .u8 y)] = (xs ++ [y]).map fun x => .v (.int .u8 x) := by simp
theorem fold_u8s {xs ys : List Int} : (xs.map fun x => M.v (.int .u8 x)) ++ (ys.map fun x => M.v (.int .u8 x)) = (xs ++ ys).map fun x => .v (.int .u8 x) := by simp
attribute [simp ↓ high] ldA_flat
attribute [simp ↓] finK_nil finK_cons atM_flat atM_flat0
attribute [simp] unfrL_flat
end Go.Tl
