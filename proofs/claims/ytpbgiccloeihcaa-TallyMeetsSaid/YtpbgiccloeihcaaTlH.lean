/- The tree logic, part H: append. -/
import Derived.Test.YtpbgiccloeihcaaTlG
namespace Go.Tl
open Go.RowKit

section
variable {P : Program} {A : Nat → Prop} {w0 : World} {β0 : Nat → Option Nat} {T0 : Tbl} {w : World} {β : Nat → Option Nat} {T : Tbl} {K : M → Tbl → Prop}

/-- G block of the call's own is given up. -/
theorem Post.forget (h : Post A w0 β0 T0 w β T) {id : Nat} (hid : live T id) : Move A w0 β0 T0 w β T w β (T.set id .gone) := by
  have hlt := live_lt hid
  have hsub : ∀ i, live (T.set id .gone) i → live T i ∧ i ≠ id := fun i hi => by
    rcases (live_set hlt).1 hi with ⟨h1, h2⟩ | ⟨_, _, _, h3⟩
    · exact ⟨h2, h1⟩
    · cases h3
  have hgone : isGone (T.set id .gone) id := by unfold isGone; rw [List.getElem?_set_self hlt]
  have hg : ∀ i, isGone T i → isGone (T.set id .gone) i := fun i hi => gone_set hid hi
  have hl : Lasts w β (okB w β T w0.heap.size A) T w β (okB w β (T.set id .gone) w0.heap.size A) (T.set id .gone) := by
    refine ⟨fun fr k hk => ⟨⟨hk.1, fun i hi => hk.2.1 i (hsub i hi).1, hk.2.2⟩, rfl⟩, hg, fun i hi => ?_⟩
    by_cases e : i = id
    · exact .inl (e ▸ hgone)
    · exact .inr ⟨(live_set hlt).2 (.inl ⟨e, hi⟩), rfl, fun _ _ => rfl⟩
  refine ⟨⟨h.os, h.tape, h.output, h.size, h.frame, ⟨fun i b hi => h.wf.bnd i b (hsub i hi).1, fun i j b hi hj => h.wf.inj i j b (hsub i hi).1 (hsub j hj).1, fun i fr cs hc => ?_⟩, by rw [List.length_set]; exact h.len,
    fun i hi => ⟨fun hgi => hg i ((h.old i hi).1 hgi), fun hli => (h.old i hi).2 (hsub i hli).1⟩, fun i b hi hli => h.new i b hi (hsub i hli).1⟩, hl⟩
  have hne := (hsub i ⟨fr, cs, hc⟩).2
  rw [List.getElem?_set_ne (Ne.symm hne)] at hc
  rcases h.wf.obj i fr cs hc with h1 | ⟨b, us, sp, t, hb, hf, h1, h2⟩
  · exact .inl h1
  · exact .inr ⟨b, us, sp, t, hb, hf, h1, RepL.last hl _ _ h2⟩

/-- G block of the call's own gets a new number; what knew it by the old one knows nothing of it any more. -/
theorem Post.reown (h : Post A w0 β0 T0 w β T) {id : Nat} {fr : Bool} {cs : List M} (hid : T[id]? = some (.cells fr cs)) :
    Move A w0 β0 T0 w β T w (setβ β T.length (β id)) (T.set id .gone ++ [.cells fr cs]) := by
  have hlive : live T id := ⟨fr, cs, hid⟩
  have hlt := live_lt hlive
  have hlen : (T.set id .gone).length = T.length := List.length_set ..
  have hβ : ∀ i, i < T.length → setβ β T.length (β id) i = β i := fun i hi => by unfold setβ; rw [if_neg (by omega)]
  have hβn : setβ β T.length (β id) T.length = β id := by unfold setβ; rw [if_pos rfl]
  have hsub : ∀ i, live (T.set id .gone ++ [.cells fr cs]) i → (live T i ∧ i ≠ id ∧ i < T.length) ∨ i = T.length := fun i hi => by
    rcases live_append.1 hi with hi | ⟨e, _⟩
    · rcases (live_set hlt).1 hi with ⟨h1, h2⟩ | ⟨_, _, _, h3⟩
      · exact .inl ⟨h2, h1, live_lt h2⟩
      · cases h3
    · exact .inr (e.trans hlen)
  have hgone : isGone (T.set id .gone ++ [.cells fr cs]) id := gone_append (by unfold isGone; rw [List.getElem?_set_self hlt])
  have hg : ∀ i, isGone T i → isGone (T.set id .gone ++ [.cells fr cs]) i := fun i hi => gone_append (gone_set hlive hi)
  have hl : Lasts w β (okB w β T w0.heap.size A) T w (setβ β T.length (β id)) (okB w (setβ β T.length (β id)) (T.set id .gone ++ [.cells fr cs]) w0.heap.size A) (T.set id .gone ++ [.cells fr cs]) := by
    refine ⟨fun fr k hk => ⟨⟨hk.1, fun i hi => ?_, hk.2.2⟩, rfl⟩, hg, fun i hi => ?_⟩
    · rcases hsub i hi with ⟨h1, _, h3⟩ | rfl
      · rw [hβ i h3]; exact hk.2.1 i h1
      · rw [hβn]; exact hk.2.1 id hlive
    · by_cases e : i = id
      · exact .inl (e ▸ hgone)
      · exact .inr ⟨live_append.2 (.inl ((live_set hlt).2 (.inl ⟨e, hi⟩))), hβ i (live_lt hi), fun _ _ => rfl⟩
  refine ⟨⟨h.os, h.tape, h.output, h.size, h.frame, ⟨fun i b hi hb => ?_, fun i j b hi hj hb hb' => ?_, fun i fr' cs' hc => ?_⟩, ?_, fun i hi => ⟨fun hgi => hg i ((h.old i hi).1 hgi), fun hli => ?_⟩, fun i b hi hli hb => ?_⟩, hl⟩
  · rcases hsub i hi with ⟨h1, _, h3⟩ | rfl
    · rw [hβ i h3] at hb; exact h.wf.bnd i b h1 hb
    · rw [hβn] at hb; exact h.wf.bnd id b hlive hb
  · rcases hsub i hi with ⟨h1, h2, h3⟩ | rfl <;> rcases hsub j hj with ⟨h4, h5, h6⟩ | rfl
    · rw [hβ i h3] at hb; rw [hβ j h6] at hb'; exact h.wf.inj i j b h1 h4 hb hb'
    · rw [hβ i h3] at hb; rw [hβn] at hb'; exact absurd (h.wf.inj i id b h1 hlive hb hb') h2
    · rw [hβ j h6] at hb'; rw [hβn] at hb; exact absurd (h.wf.inj j id b h4 hlive hb' hb) h5
    · rfl
  · rcases hsub i ⟨fr', cs', hc⟩ with ⟨h1, h2, h3⟩ | rfl
    · rw [List.getElem?_append_left (by omega), List.getElem?_set_ne (Ne.symm h2)] at hc
      rcases h.wf.obj i fr' cs' hc with ⟨h4, h5⟩ | ⟨b, us, sp, t, hb, hf, h4, h5⟩
      · exact .inl ⟨(hβ i h3).trans h4, h5⟩
      · exact .inr ⟨b, us, sp, t, (hβ i h3).trans hb, hf, h4, RepL.last hl _ _ h5⟩
    · rw [List.getElem?_append_right (by omega), hlen, Nat.sub_self] at hc
      simp only [List.getElem?_cons_zero, Option.some.injEq, Ob.cells.injEq] at hc
      obtain ⟨rfl, rfl⟩ := hc
      rcases h.wf.obj id _ _ hid with ⟨h4, h5⟩ | ⟨b, us, sp, t, hb, hf, h4, h5⟩
      · exact .inl ⟨hβn.trans h4, h5⟩
      · exact .inr ⟨b, us, sp, t, hβn.trans hb, hf, h4, RepL.last hl _ _ h5⟩
  · rw [List.length_append, hlen]; have := h.len; omega
  · rcases hsub i hli with ⟨h1, _, h3⟩ | rfl
    · obtain ⟨h4, h5, h6⟩ := (h.old i hi).2 h1
      exact ⟨h4, (hβ i h3).trans h5, fun b hb => h6 b (by rw [← hβ i h3]; exact hb)⟩
    · have := h.len; omega
  · rcases hsub i hli with ⟨h1, _, h3⟩ | rfl
    · rw [hβ i h3] at hb; exact h.new i b hi h1 hb
    · rw [hβn] at hb
      rcases Nat.lt_or_ge id T0.length with h7 | h7
      · obtain ⟨h4, h5, _⟩ := (h.old id h7).2 hlive
        exact .inr ⟨id, h4, h5.symm.trans hb⟩
      · exact h.new id b h7 hlive hb

/-- The elements of a slice's value. -/
def rowOf (T : Tbl) (e : Nat) : M → Option (List M × Nat)
  | .sl _ cells len => if cells.length = len * e then some (cells, len) else none
  | .sr id off len sz => match T[id]? with
    | some (.cells _ cs) => if sz = e ∧ off + len * e ≤ cs.length then some ((cs.drop off).take (len * e), len) else none
    | _ => none
  | .v (.slice none 0 0) => some ([], 0)
  | .sx => some ([], 0)
  | _ => none

theorem rowOf_rep {m : M} {x : Value} {cs : List M} {e n : Nat} (hP : Post A w0 β0 T0 w β T) (h : rowOf T e m = some (cs, n)) (hr : RepS A w0 w β T m x) :
    cs.length = n * e ∧ ∃ (G : Option Addr) (cap : Nat) (us : List Value), x = .slice G n cap ∧ n ≤ cap ∧ RepSL A w0 w β T cs us ∧ (∀ a, G = some a → ∀ (j : Nat) (u : Value), us[j]? = some u → w.cell? (a.add j) = some u) ∧ (G = none → n = 0) := by
  unfold rowOf at h
  split at h
  · rename_i fr cells len
    split at h
    · rename_i hlen
      simp only [Option.some.injEq, Prod.mk.injEq] at h
      obtain ⟨rfl, rfl⟩ := h
      simp only [RepS, Rep] at hr
      rcases hr with ⟨rfl, rfl, rfl⟩ | ⟨a, cap, us, rfl, h1, _, h2, h3⟩
      · exact ⟨by simp, none, 0, [], rfl, Nat.le_refl _, RepL.nil, fun a ha => (by cases ha), fun _ => rfl⟩
      · have h4 : RepSL A w0 w β T cells us := RepL.last ⟨fun fr k hk => ⟨hk, rfl⟩, fun i hi => absurd hi (not_gone_nil i), fun i hi => absurd hi (not_live_nil i)⟩ _ _ h2
        exact ⟨hlen, some a, cap, us, rfl, h1, h4, fun a' ha j u hu => by injection ha with ha; subst ha; exact (h3 j u hu).2, fun h => by cases h⟩
    · cases h
  · rename_i id off len sz
    split at h
    · rename_i fr cs' hT
      split at h
      · rename_i hc
        obtain ⟨rfl, hle⟩ := hc
        simp only [Option.some.injEq, Prod.mk.injEq] at h
        obtain ⟨rfl, rfl⟩ := h
        have hcl : (List.take (len * sz) (List.drop off cs')).length = len * sz := by rw [List.length_take, List.length_drop]; omega
        simp only [RepS, Rep] at hr
        rcases hr with hr | ⟨_, ⟨b, cap, n, hb, rfl, h1, _, _, _⟩ | ⟨rfl, G, rfl⟩⟩
        · unfold isGone at hr; rw [hT] at hr; cases hr
        · rcases hP.wf.obj _ _ _ hT with ⟨h2, _⟩ | ⟨b', us, sp, t, hb', _, h3, h4⟩
          · rw [h2] at hb; cases hb
          obtain rfl : b' = b := by rw [hb'] at hb; injection hb
          refine ⟨hcl, _, cap, (us.drop off).take (len * sz), rfl, h1, (h4.drop off).take _, fun a ha j u hu => ?_, fun h => by cases h⟩
          injection ha with ha
          subst ha
          rw [List.getElem?_take] at hu
          split at hu
          · rw [List.getElem?_drop] at hu
            rw [addr_mk_add, cell_of_row w _ _ _ _ _ h3, List.getElem?_toArray, List.getElem?_append_left (List.getElem?_eq_some_iff.1 hu).1]
            exact hu
          · cases hu
        · exact ⟨hcl, G, 0, [], rfl, Nat.le_refl _, by simpa using RepL.nil, fun a ha j u hu => by simp at hu, fun _ => rfl⟩
      · cases h
    · cases h
  · simp only [Option.some.injEq, Prod.mk.injEq] at h
    obtain ⟨rfl, rfl⟩ := h
    simp only [RepS, Rep] at hr
    subst hr
    exact ⟨by simp, none, 0, [], rfl, Nat.le_refl _, RepL.nil, fun a ha => (by cases ha), fun _ => rfl⟩
  · simp only [Option.some.injEq, Prod.mk.injEq] at h
    obtain ⟨rfl, rfl⟩ := h
    simp only [RepS, Rep] at hr
    obtain ⟨G, rfl⟩ := hr
    exact ⟨by simp, G, 0, [], rfl, Nat.le_refl _, RepL.nil, fun a ha j u hu => by simp at hu, fun _ => rfl⟩
  · cases h

/-- append of one slice's elements behind another's. -/
def opAppend (P : Program) (T : Tbl) (ts : Array TypeId) (s x : M) (K : M → Tbl → Prop) : Prop :=
  match ts[0]?, ts[1]? with
  | some t, some t' => t' = t ∧ (match lay P t with
    | some (.sl e b ez, _, _) => ez.length = e ∧ (match rowOf T e x with
      | some (ns, m) => ns.all (oneCell T) = true ∧ (match s with
        | .v (.slice none 0 0) => m * b ≤ 140737488355328 ∧ m ≤ 9223372036854775807 ∧ K (.sr T.length 0 m e) (T ++ [.cells true ns])
        | .sx => m * b ≤ 140737488355328 ∧ m ≤ 9223372036854775807 ∧ K (.sr T.length 0 m e) (T ++ [.cells true ns])
        | .sr id off n sz => (match T[id]? with
          | some (.cells fr cs) => off = 0 ∧ sz = e ∧ cs.length = n * e ∧ (n + m) * b ≤ 140737488355328 ∧ n + m ≤ 9223372036854775807 ∧
              K (.sr T.length 0 (n + m) e) (T.set id .gone ++ [.cells fr (cs ++ ns)])
          | _ => False)
        | _ => False)
      | none => False)
    | _ => False)
  | _, _ => False

theorem run_append_zero {t ty el : TypeId} {j : TypeInfo} (ht : P.underlying t = some (.slice el)) (hi : P.info? el = some j) (G G' : Option Addr) (n cap c : Nat) (hn : n ≤ cap) :
    (Builtin.append_ #[t, t] ty #[.slice G n cap, .slice G' 0 c]).run P w = .ok (.slice G n cap) w := by
  have hf : (Builtin.firstCells j.size 0 (.slice G' 0 c)).run P w = .ok #[] w := by
    cases G' with
    | none => exact run_firstCells_none ..
    | some a => exact run_firstCells_some w j.size 0 a 0 c [] (by simp) (by simp)
  cases G <;> simp [Builtin.append_, Go.run_underlying ht, Go.sizeOf, Go.typeInfo, hi, Builtin.lenOf, hn, hf, storeCells]

theorem grown_row {k : Nat} (cells : List Value) (need : Nat) (z : Value) (old : Nat) (el : TypeId) (hz : z.cells.size = k) (hc : cells.length = need * k) :
    (cells.toArray ++ Builtin.zeroCells z.cells (grownCap w need old el - need)).size = grownCap w need old el * k := by
  have := grownCap_ge w need old el
  simp only [Array.size_append, List.size_toArray, size_zeroCells, hz, hc, ← Nat.add_mul]
  congr 1; omega

/-- The array is made anew. -/
theorem append_new {t ty el : TypeId} {j : TypeInfo} {zv : Value} (hP : Post A w0 β0 T0 w β T) (ht : P.underlying t = some (.slice el)) (hi : P.info? el = some j) (hz : j.zero = some zv) (hzs : zv.cells.size = j.size)
    (fr : Bool) {cs ns : List M} {us0 us1 : List Value} (h0 : RepSL A w0 w β T cs us0) (h1 : RepSL A w0 w β T ns us1) {G : Option Addr} {a : Addr} {n m cap c : Nat}
    (hl0 : us0.length = n * j.size) (hl1 : us1.length = m * j.size) (hA : ∀ b, G = some b → ∀ (q : Nat) (u : Value), us0[q]? = some u → w.cell? (b.add q) = some u) (hA0 : G = none → n = 0 ∧ cap = 0)
    (ha : ∀ (q : Nat) (u : Value), us1[q]? = some u → w.cell? (a.add q) = some u) (hm : 0 < m) (hcap : cap < n + m) (hby : (n + m) * j.bytes ≤ 140737488355328) (hmax : n + m ≤ 9223372036854775807) :
    ∃ x w' β', (Builtin.append_ #[t, t] ty #[.slice G n cap, .slice (some a) m c]).run P w = .ok x w' ∧ Move A w0 β0 T0 w β T w' β' (T ++ [.cells fr (cs ++ ns)]) ∧ RepS A w0 w' β' (T ++ [.cells fr (cs ++ ns)]) (.sr T.length 0 (n + m) j.size) x := by
  have hd := hP.drew
  have hr : RepSL A w0 w β T (cs ++ ns) (us0 ++ us1) := h0.append h1
  have hlen : (us0 ++ us1).length = (n + m) * j.size := by rw [List.length_append, hl0, hl1, Nat.add_mul]
  have fin : ∀ old, old < n + m → ∃ x w' β', (Result.ok (.slice (some ⟨w.heap.size, 0, none⟩) (n + m) (grownCap w (n + m) old el)) (w.drew.alloc (.cells (us0.toArray ++ us1.toArray ++ Builtin.zeroCells zv.cells (grownCap w (n + m) old el - (n + m))) el)) : Result Value) = .ok x w' ∧
      Move A w0 β0 T0 w β T w' β' (T ++ [.cells fr (cs ++ ns)]) ∧ RepS A w0 w' β' (T ++ [.cells fr (cs ++ ns)]) (.sr T.length 0 (n + m) j.size) x := fun old ho => by
    have harr : us0.toArray ++ us1.toArray ++ Builtin.zeroCells zv.cells (grownCap w (n + m) old el - (n + m)) = (us0 ++ us1 ++ (Builtin.zeroCells zv.cells (grownCap w (n + m) old el - (n + m))).toList).toArray := by
      apply Array.ext'; simp
    have hsz := grown_row (w := w) (us0 ++ us1) (n + m) zv old el hzs hlen
    have hmv := hd.trans (hd.post.alloc fr (us := us0 ++ us1) (Builtin.zeroCells zv.cells (grownCap w (n + m) old el - (n + m))).toList el (hd.repL hr))
    refine ⟨_, _, setβ β T.length (some w.heap.size), rfl, ?_, ?_⟩
    · rw [harr]; exact hmv
    · rw [harr]
      refine rep_new_sr fr (by simp [setβ]) (grownCap_ge w _ _ _) (grownCap_le_maxLen w _ _ _ (by unfold maxLen; omega)) (bsize_push w.drew _ _) ?_
      rw [← harr]
      have e : us0.toArray ++ us1.toArray = (us0 ++ us1).toArray := by simp
      rw [e, hsz]
      exact Nat.le_refl _
  cases G with
  | none =>
    obtain ⟨rfl, rfl⟩ := hA0 rfl
    have hu0 : us0 = [] := List.length_eq_zero_iff.1 (by rw [hl0]; simp)
    subst hu0
    simp only [Nat.zero_add] at hby hmax fin ⊢
    rw [run_append_nil w t ty el j zv ht hi hz a m c us1 hl1 ha hm (by omega) (by omega)]
    simpa using fin 0 hm
  | some b =>
    rw [run_append_grow w t ty el j zv ht hi hz b n cap us0 hl0 (hA b rfl) a m c us1 hl1 ha hcap (by omega) (growslice_fits hcap hby)]
    exact fin cap hcap

/-- Onto a slice without room. -/
theorem append_base {t ty el : TypeId} {j : TypeInfo} {zv : Value} (hP : Post A w0 β0 T0 w β T) (ht : P.underlying t = some (.slice el)) (hi : P.info? el = some j) (hz : j.zero = some zv) (hzs : zv.cells.size = j.size)
    (fr : Bool) {ns : List M} {us1 : List Value} (h1 : RepSL A w0 w β T ns us1) {G G' : Option Addr} {m c : Nat} (hl1 : us1.length = m * j.size)
    (hA' : ∀ a, G' = some a → ∀ (q : Nat) (u : Value), us1[q]? = some u → w.cell? (a.add q) = some u) (hA0' : G' = none → m = 0) (hby : m * j.bytes ≤ 140737488355328) (hmax : m ≤ 9223372036854775807) :
    ∃ x' w' β', (Builtin.append_ #[t, t] ty #[.slice G 0 0, .slice G' m c]).run P w = .ok x' w' ∧ Move A w0 β0 T0 w β T w' β' (T ++ [.cells fr ns]) ∧ RepS A w0 w' β' (T ++ [.cells fr ns]) (.sr T.length 0 m j.size) x' := by
  rcases Nat.eq_zero_or_pos m with rfl | hm
  · have hn0 : ns = [] := List.length_eq_zero_iff.1 (by rw [← RepL.length h1, hl1]; simp)
    subst hn0
    refine ⟨_, w, _, run_append_zero ht hi G G' 0 0 c (Nat.le_refl _), hP.phantom fr, ?_⟩
    simp only [RepS, Rep]
    exact .inr ⟨live_append.2 (.inr ⟨rfl, fr, [], rfl⟩), .inr ⟨trivial, G, rfl⟩⟩
  · cases G' with
    | none => have := hA0' rfl; omega
    | some a =>
      have := append_new (ty := ty) (cap := 0) (c := c) hP ht hi hz hzs fr (cs := []) (us0 := []) RepL.nil h1 (G := G) (a := a) (n := 0) (m := m) (by simp) hl1 (fun b _ q u hu => by simp at hu) (fun _ => ⟨rfl, rfl⟩) (hA' a rfl) hm (by omega) (by simpa using hby) (by simpa using hmax)
      simpa using this

theorem run_append_room' (w : World) (t ty e t0 : TypeId) (i : TypeInfo) (ht : P.underlying t = some (.slice e)) (hi : P.info? e = some i)
    (g sLen sCap : Nat) (cur : Array Value) (hg : w.heap[g]? = some (.cells cur t0 (0, 0)))
    (a : Addr) (m c : Nat) (news : List Value) (hl : news.length = m * i.size) (hnews : ∀ j u, news[j]? = some u → w.cell? (a.add j) = some u) (h1 : ∀ u ∈ news, u.oneCell' = true)
    (hroom : sLen + m ≤ sCap) (hfit : sLen * i.size + news.length ≤ cur.size) :
    (Builtin.append_ #[t, t] ty #[.slice (some ⟨g, 0, none⟩) sLen sCap, .slice (some a) m c]).run P w =
      .ok (.slice (some ⟨g, 0, none⟩) (sLen + m) sCap) (w.setRow g (cur.toList.take (sLen * i.size) ++ news ++ cur.toList.drop (sLen * i.size + news.length)).toArray) := by
  have hf := run_firstCells_some (P := P) w i.size m a m c news hl hnews
  have hst := run_storeCells_at P g (sLen * i.size) t0 news 0 cur w hg (by simpa using hfit) h1
  simp only [Nat.add_zero] at hst
  have e : (⟨g, 0, none⟩ : Addr).add (sLen * i.size) = ⟨g, sLen * i.size, none⟩ := by rw [addr_mk_add, Nat.zero_add]
  simp [Builtin.append_, Go.run_underlying ht, Go.sizeOf, Go.typeInfo, hi, Builtin.lenOf, hroom, hf, e, hst]

theorem append_ok {ts : Array TypeId} {ty : TypeId} {ms mx : M} {s x : Value} (hP : Post A w0 β0 T0 w β T) (hrs : RepS A w0 w β T ms s) (hrx : RepS A w0 w β T mx x) (hts : ts.size = 2) (h : opAppend P T ts ms mx K) :
    Yld P false (Builtin.append_ ts ty #[s, x]) A w0 β0 T0 w β T K := by
  unfold opAppend at h
  split at h
  case h_2 => exact h.elim
  rename_i t t' e1 e2
  obtain ⟨rfl, h⟩ := h
  have hts' : ts = #[t', t'] := by
    apply Array.ext
    · simpa using hts
    · intro i h1 h2
      simp only [List.size_toArray, List.length_cons, List.length_nil] at h2
      rcases (by omega : i = 0 ∨ i = 1) with rfl | rfl
      · simpa using (Array.getElem?_eq_some_iff.1 e1).2
      · simpa using (Array.getElem?_eq_some_iff.1 e2).2
  subst hts'
  split at h
  case h_2 => exact h.elim
  rename_i e b ez sz z hlay
  obtain ⟨hez, h⟩ := h
  obtain ⟨d, i, zv0, hu, _, _, h4, _, _⟩ := lay_spec hlay
  obtain ⟨el, j, zv, rfl, h5, h6, rfl, rfl, rfl⟩ := layK_sl h4
  have hzs : zv.cells.size = j.size := by rw [← hez]; simp
  split at h
  case h_2 => exact h.elim
  rename_i ns m hrow
  obtain ⟨hall, h⟩ := h
  obtain ⟨hnl, G', c, us1, rfl, hmc, h1, hA', hA0'⟩ := rowOf_rep hP hrow hrx
  have hl1 : us1.length = m * j.size := by rw [RepL.length h1, hnl]
  split at h
  · obtain ⟨hby, hmax, hK⟩ := h
    simp only [RepS, Rep] at hrs
    subst hrs
    obtain ⟨x', w', β', h7, h8, h9⟩ := append_base (ty := ty) (c := c) (G := none) hP hu h5 h6 hzs true h1 hl1 hA' hA0' hby hmax
    exact ⟨x', w', _, _, β', h7, hK, h8, h9, fun h => by cases h⟩
  · obtain ⟨hby, hmax, hK⟩ := h
    simp only [RepS, Rep] at hrs
    obtain ⟨G, rfl⟩ := hrs
    obtain ⟨x', w', β', h7, h8, h9⟩ := append_base (ty := ty) (c := c) (G := G) hP hu h5 h6 hzs true h1 hl1 hA' hA0' hby hmax
    exact ⟨x', w', _, _, β', h7, hK, h8, h9, fun h => by cases h⟩
  · rename_i id off n sz'
    split at h
    case h_2 => exact h.elim
    rename_i fr cs hT
    obtain ⟨rfl, rfl, hcl, hby, hmax, hK⟩ := h
    have hlive : live T id := ⟨fr, cs, hT⟩
    have hlenT : (T.set id .gone).length = T.length := List.length_set ..
    have hf := hP.forget hlive
    simp only [RepS, Rep] at hrs
    rcases hrs with hrs | ⟨_, ⟨g, cap, nn, hb, rfl, h7, h8, h9, h10⟩ | ⟨rfl, G, rfl⟩⟩
    · unfold isGone at hrs; rw [hT] at hrs; cases hrs
    · rcases hP.wf.obj _ _ _ hT with ⟨h11, _⟩ | ⟨b', us0, sp0, t0, hb', _, h11, h12⟩
      · rw [h11] at hb; cases hb
      obtain rfl : b' = g := by rw [hb'] at hb; injection hb
      have hl0 : us0.length = n * j.size := by rw [RepL.length h12, hcl]
      have hnn : nn = (us0 ++ sp0).length := by unfold bsize at h9; rw [h11] at h9; simpa using h9.symm
      rcases Nat.eq_zero_or_pos m with rfl | hm
      · have hn0 : ns = [] := List.length_eq_zero_iff.1 (by rw [hnl]; simp)
        subst hn0
        have hmv := hP.reown hT
        simp only [Nat.add_zero, List.append_nil] at hK
        refine ⟨_, w, _, _, _, run_append_zero hu h5 _ G' n cap c h7, hK, hmv, ?_, fun h => by cases h⟩
        simp only [Rep]
        refine .inr ⟨live_append.2 (.inr ⟨hlenT.symm, fr, cs, rfl⟩), .inl ⟨b', cap, nn, ?_, rfl, h7, h8, h9, h10⟩⟩
        simp [setβ, hb]
      · cases G' with
        | none => have := hA0' rfl; omega
        | some a =>
          by_cases hroom : n + m ≤ cap
          · have hcapm : (n + m) * j.size ≤ nn := Nat.le_trans (Nat.mul_le_mul_right _ hroom) (by omega)
            rw [Nat.add_mul, hnn, List.length_append] at hcapm
            have hrun := run_append_room' (P := P) w t' ty el t0 j hu h5 b' n cap (us0 ++ sp0).toArray h11 a m c us1 hl1 (hA' a rfl) (all_oneCell hall h1) hroom (by rw [List.size_toArray, List.length_append]; omega)
            have harr : ((us0 ++ sp0).toArray.toList.take (n * j.size) ++ us1 ++ (us0 ++ sp0).toArray.toList.drop (n * j.size + us1.length)).toArray = (us0 ++ us1 ++ sp0.drop us1.length).toArray := by
              simp only
              rw [← hl0, List.take_left, ← List.drop_drop, List.drop_left]
            rw [harr] at hrun
            have hw1 := hP.write (us := us0 ++ us1) (sp := sp0.drop us1.length) (cs := cs ++ ns) hT hb' h11 (by simp only [List.length_append, List.length_drop]; omega) (h12.append h1)
            have hT1 : (T.set id (.cells fr (cs ++ ns)))[id]? = some (.cells fr (cs ++ ns)) := List.getElem?_set_self (live_lt hlive)
            have hw2 := hw1.post.reown hT1
            rw [List.length_set, List.set_set] at hw2
            refine ⟨_, _, _, _, _, hrun, hK, hw1.trans hw2, ?_, fun h => by cases h⟩
            simp only [Rep]
            refine .inr ⟨live_append.2 (.inr ⟨hlenT.symm, fr, _, rfl⟩), .inl ⟨b', cap, nn, by simp [setβ, hb], rfl, hroom, h8, ?_, h10⟩⟩
            unfold bsize
            rw [setRow_heap w _ _ _ t0 _ h11]
            simp only [List.size_toArray, List.length_append, List.length_drop, hnn, Option.some.injEq]
            omega
          · have := append_new (ty := ty) (cap := cap) (c := c) hf.post hu h5 h6 hzs fr (hf.repL h12) (hf.repL h1) (G := some ⟨b', 0, none⟩) (a := a) (n := n) (m := m) hl0 hl1
              (fun q hq k u hu' => by
                injection hq with hq
                subst hq
                rw [addr_mk_add, Nat.zero_add, cell_of_row w _ _ _ _ _ h11, List.getElem?_toArray, List.getElem?_append_left (List.getElem?_eq_some_iff.1 hu').1]
                exact hu') (fun hq => by cases hq) (hA' a rfl) hm (by omega) hby hmax
            obtain ⟨x', w', β', h13, h14, h15⟩ := this
            rw [hlenT] at h15
            exact ⟨x', w', _, _, β', h13, hK, hf.trans h14, h15, fun h => by cases h⟩
    · have hcs0 : cs = [] := List.length_eq_zero_iff.1 (by rw [hcl]; simp)
      subst hcs0
      simp only [Nat.zero_add, List.nil_append] at hby hmax hK
      obtain ⟨x', w', β', h13, h14, h15⟩ := append_base (ty := ty) (c := c) (G := G) hf.post hu h5 h6 hzs fr (hf.repL h1) hl1 hA' hA0' hby hmax
      rw [hlenT] at h15
      exact ⟨x', w', _, _, β', h13, hK, hf.trans h14, h15, fun h => by cases h⟩
  · exact h.elim
end
end Go.Tl
