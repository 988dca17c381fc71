/- The tree logic, part U: a finished block becomes a tree. -/
import Derived.Test.YtpbgiccloeihcaaTlT
namespace Go.Tl
open Go.RowKit

mutual
/-- It names no block of the call's own. -/
def clM : M → Bool
  | .ref _ _ => false
  | .sr _ _ _ _ => false
  | .fn _ a b => clL a && clL b
  | .ifc _ m => clM m
  | .agg cs => clL cs
  | .tup ms => clL ms
  | .any => true
  | .v _ => true
  | .sl _ _ _ => true
  | .ip _ _ _ => true
  | .sx => true
def clL : List M → Bool
  | [] => true
  | m :: ms => clM m && clL ms
end

mutual
def frz (i : Nat) (cs : List M) : M → M
  | .ref id off => if id = i then .ip true cs off else .ref id off
  | .sr id off len sz => if id = i then .sl true ((cs.drop off).take (len * sz)) len else .sr id off len sz
  | .fn f a b => .fn f (frzL i cs a) (frzL i cs b)
  | .ifc t m => .ifc t (frz i cs m)
  | .agg ms => .agg (frzL i cs ms)
  | .tup ms => .tup (frzL i cs ms)
  | .any => .any
  | .v x => .v x
  | .sl fr cells len => .sl fr cells len
  | .ip fr cells off => .ip fr cells off
  | .sx => .sx
def frzL (i : Nat) (cs : List M) : List M → List M
  | [] => []
  | m :: ms => frz i cs m :: frzL i cs ms
end

def frzOb (i : Nat) (cs : List M) : Ob → Ob
  | .gone => .gone
  | .cells fr ms => .cells fr (frzL i cs ms)

theorem frzL_length (i : Nat) (cs : List M) : ∀ ms, (frzL i cs ms).length = ms.length
  | [] => rfl
  | _ :: ms => by simp [frzL, frzL_length i cs ms]

section
variable {w : World} {β : Nat → Option Nat} {ok ok' : Bool → Nat → Prop} {T T' : Tbl}

mutual
theorem Rep.cl (h1 : ∀ fr k, ok fr k → ok' fr k) : ∀ (m : M) (x : Value), clM m = true → Rep w β ok T m x → Rep w β ok' [] m x
  | .any, _, _, _ => by simp [Rep]
  | .v y, x, _, hx => by simpa [Rep] using hx
  | .sl fr cells len, x, _, hx => by
    simp only [Rep] at hx ⊢
    rcases hx with hx | ⟨a, cap, us, rfl, h3, h4, h5, h6⟩
    · exact .inl hx
    · exact .inr ⟨a, cap, us, rfl, h3, h4, RepL.keep (T := []) (T' := []) false (h1 true) (fun _ => h1 false) cells us (fun h => by cases h) h5, fun j u hj => ⟨h1 _ _ (h6 j u hj).1, (h6 j u hj).2⟩⟩
  | .ip fr cells off, x, _, hx => by
    simp only [Rep] at hx ⊢
    obtain ⟨a, us, rfl, h5, h6⟩ := hx
    exact ⟨a, us, rfl, RepL.keep (T := []) (T' := []) false (h1 true) (fun _ => h1 false) cells us (fun h => by cases h) h5, fun j u hj => ⟨h1 _ _ (h6 j u hj).1, (h6 j u hj).2⟩⟩
  | .ref _ _, _, h, _ => by cases h
  | .sr _ _ _ _, _, h, _ => by cases h
  | .sx, x, _, hx => by simpa [Rep] using hx
  | .fn f a c, x, h, hx => by
    simp only [clM, Bool.and_eq_true] at h
    simp only [Rep] at hx ⊢
    obtain ⟨us, vs, rfl, h3, h4⟩ := hx
    exact ⟨us, vs, rfl, RepL.cl h1 a us h.1 h3, RepL.cl h1 c vs h.2 h4⟩
  | .ifc t m, x, h, hx => by
    simp only [clM] at h
    simp only [Rep] at hx ⊢
    obtain ⟨u, rfl, h3⟩ := hx
    exact ⟨u, rfl, Rep.cl h1 m u h h3⟩
  | .agg cs, x, h, hx => by
    simp only [clM] at h
    simp only [Rep] at hx ⊢
    obtain ⟨us, rfl, h3⟩ := hx
    exact ⟨us, rfl, RepL.cl h1 cs us h h3⟩
  | .tup ms, x, h, hx => by
    simp only [clM] at h
    simp only [Rep] at hx ⊢
    obtain ⟨us, rfl, h3⟩ := hx
    exact ⟨us, rfl, RepL.cl h1 ms us h h3⟩
theorem RepL.cl (h1 : ∀ fr k, ok fr k → ok' fr k) : ∀ (ms : List M) (us : List Value), clL ms = true → RepL w β ok T ms us → RepL w β ok' [] ms us
  | [], us, _, hx => by simpa [RepL] using hx
  | m :: ms, us, h, hx => by
    simp only [clL, Bool.and_eq_true] at h
    simp only [RepL] at hx ⊢
    obtain ⟨u, vs, rfl, h3, h4⟩ := hx
    exact ⟨u, vs, rfl, Rep.cl h1 m u h.1 h3, RepL.cl h1 ms vs h.2 h4⟩
end

mutual
theorem Rep.frz {i : Nat} {cs : List M} (h1 : ∀ fr k, ok fr k → ok' fr k) (hg : ∀ j, j ≠ i → (isGone T j → isGone T' j) ∧ (live T j → live T' j))
    (hr : ∀ off x, Rep w β ok T (.ref i off) x → Rep w β ok' T' (.ip true cs off) x) (hs : ∀ off len sz x, Rep w β ok T (.sr i off len sz) x → Rep w β ok' T' (.sl true ((cs.drop off).take (len * sz)) len) x) :
    ∀ (m : M) (x : Value), Rep w β ok T m x → Rep w β ok' T' (frz i cs m) x
  | .any, _, _ => by simp [Tl.frz, Rep]
  | .v y, x, hx => by simpa [Tl.frz, Rep] using hx
  | .sl fr cells len, x, hx => by
    simp only [Tl.frz, Rep] at hx ⊢
    rcases hx with hx | ⟨a, cap, us, rfl, h3, h4, h5, h6⟩
    · exact .inl hx
    · exact .inr ⟨a, cap, us, rfl, h3, h4, RepL.keep (T := []) (T' := []) false (h1 true) (fun _ => h1 false) cells us (fun h => by cases h) h5, fun j u hj => ⟨h1 _ _ (h6 j u hj).1, (h6 j u hj).2⟩⟩
  | .ip fr cells off, x, hx => by
    simp only [Tl.frz, Rep] at hx ⊢
    obtain ⟨a, us, rfl, h5, h6⟩ := hx
    exact ⟨a, us, rfl, RepL.keep (T := []) (T' := []) false (h1 true) (fun _ => h1 false) cells us (fun h => by cases h) h5, fun j u hj => ⟨h1 _ _ (h6 j u hj).1, (h6 j u hj).2⟩⟩
  | .ref id off, x, hx => by
    simp only [Tl.frz]
    split
    · rename_i e; subst e; exact hr off x hx
    · rename_i e
      simp only [Rep] at hx ⊢
      rcases hx with hx | ⟨hl, hx⟩
      · exact .inl ((hg _ e).1 hx)
      · exact .inr ⟨(hg _ e).2 hl, hx⟩
  | .sr id off len sz, x, hx => by
    simp only [Tl.frz]
    split
    · rename_i e; subst e; exact hs off len sz x hx
    · rename_i e
      simp only [Rep] at hx ⊢
      rcases hx with hx | ⟨hl, hx⟩
      · exact .inl ((hg _ e).1 hx)
      · exact .inr ⟨(hg _ e).2 hl, hx⟩
  | .sx, x, hx => by simpa [Tl.frz, Rep] using hx
  | .fn f a c, x, hx => by
    simp only [Tl.frz, Rep] at hx ⊢
    obtain ⟨us, vs, rfl, h3, h4⟩ := hx
    exact ⟨us, vs, rfl, RepL.frz h1 hg hr hs a us h3, RepL.frz h1 hg hr hs c vs h4⟩
  | .ifc t m, x, hx => by
    simp only [Tl.frz, Rep] at hx ⊢
    obtain ⟨u, rfl, h3⟩ := hx
    exact ⟨u, rfl, Rep.frz h1 hg hr hs m u h3⟩
  | .agg ms, x, hx => by
    simp only [Tl.frz, Rep] at hx ⊢
    obtain ⟨us, rfl, h3⟩ := hx
    exact ⟨us, rfl, RepL.frz h1 hg hr hs ms us h3⟩
  | .tup ms, x, hx => by
    simp only [Tl.frz, Rep] at hx ⊢
    obtain ⟨us, rfl, h3⟩ := hx
    exact ⟨us, rfl, RepL.frz h1 hg hr hs ms us h3⟩
theorem RepL.frz {i : Nat} {cs : List M} (h1 : ∀ fr k, ok fr k → ok' fr k) (hg : ∀ j, j ≠ i → (isGone T j → isGone T' j) ∧ (live T j → live T' j))
    (hr : ∀ off x, Rep w β ok T (.ref i off) x → Rep w β ok' T' (.ip true cs off) x) (hs : ∀ off len sz x, Rep w β ok T (.sr i off len sz) x → Rep w β ok' T' (.sl true ((cs.drop off).take (len * sz)) len) x) :
    ∀ (ms : List M) (us : List Value), RepL w β ok T ms us → RepL w β ok' T' (frzL i cs ms) us
  | [], us, hx => by simpa [Tl.frzL, RepL] using hx
  | m :: ms, us, hx => by
    simp only [Tl.frzL, RepL] at hx ⊢
    obtain ⟨u, vs, rfl, h3, h4⟩ := hx
    exact ⟨u, vs, rfl, Rep.frz h1 hg hr hs m u h3, RepL.frz h1 hg hr hs ms vs h4⟩
end
end

theorem cellAt {w : World} {b : Nat} {l : List Value} {t : TypeId} {o : Nat} {u : Value} (hh : w.heap[b]? = some (.cells l.toArray t (0, 0))) (hu : l[o]? = some u) : w.cell? ⟨b, o, none⟩ = some u := by
  unfold World.cell?
  simp [hh, hu]

theorem Gh.freeze {n0 : Nat} {env : Env} {T : Tbl} (i : Nat) (cs : List M) (hi : n0 ≤ i) (hT : T[i]? = some (.cells true cs)) (hcl : clL cs = true) :
    Gh n0 env T (fun k => frz i cs (env k)) ((T.set i .gone).map (frzOb i cs)) := by
  intro A w0 β0 T0 w β vals hn hP hE
  have hlt : i < T.length := (List.getElem?_eq_some_iff.1 hT).1
  let T1 : Tbl := (T.set i .gone).map (frzOb i cs)
  have hget : ∀ j, j ≠ i → T1[j]? = (T[j]?).map (frzOb i cs) := fun j hj => by
    simp only [T1, List.getElem?_map, List.getElem?_set_ne (Ne.symm hj)]
  have hself : T1[i]? = some .gone := by simp only [T1, List.getElem?_map, List.getElem?_set_self hlt, Option.map_some, frzOb]
  have hlive : ∀ j, live T1 j ↔ (j ≠ i ∧ live T j) := fun j => by
    unfold live
    by_cases hj : j = i
    · subst hj; rw [hself]; simp
    · rw [hget j hj]
      cases T[j]? with
      | none => simp
      | some o => cases o <;> simp [frzOb, hj]
  have hgone : ∀ j, isGone T1 j ↔ (j = i ∨ isGone T j) := fun j => by
    unfold isGone
    by_cases hj : j = i
    · subst hj; rw [hself]; simp
    · rw [hget j hj]
      cases T[j]? with
      | none => simp [hj]
      | some o => cases o <;> simp [frzOb, hj]
  have hok : ∀ fr k, okB w β T w0.heap.size A fr k → okB w β T1 w0.heap.size A fr k := fun fr k hk =>
    ⟨hk.1, fun j hj hb => hk.2.1 j ((hlive j).1 hj).2 hb, hk.2.2⟩
  have hli : live T i := ⟨true, cs, hT⟩
  have hblk : ∀ b, β i = some b → okB w β T1 w0.heap.size A true b ∧ ∃ (us sp : List Value) (t : TypeId), w.heap[b]? = some (.cells (us ++ sp).toArray t (0, 0)) ∧ RepL w β (okB w β T1 w0.heap.size A) [] cs us := fun b hb => by
    rcases hP.wf.obj i true cs hT with ⟨h4, _⟩ | ⟨b', us, sp, t, h4, h5, h6, h7⟩
    · rw [h4] at hb; cases hb
    · rw [h4] at hb; cases hb
      refine ⟨⟨hP.wf.bnd i _ hli h4, fun j hj hb => ?_, fun _ => h5 rfl, .inr (h5 rfl)⟩, us, sp, t, h6, RepL.cl hok cs us hcl h7⟩
      exact ((hlive j).1 hj).1 (hP.wf.inj j i _ ((hlive j).1 hj).2 hli hb h4)
  have hr : ∀ off x, RepS A w0 w β T (.ref i off) x → RepS A w0 w β T1 (.ip true cs off) x := fun off x hx => by
    simp only [RepS, Rep] at hx ⊢
    rcases hx with hx | ⟨_, b, hb, rfl⟩
    · exact absurd hli (not_live_gone hx)
    · obtain ⟨h1, us, sp, t, h2, h3⟩ := hblk b hb
      refine ⟨⟨b, 0, none⟩, us, by simp [Addr.add], h3, fun j u hj => ⟨h1, ?_⟩⟩
      have : (us ++ sp)[j]? = some u := by
        rw [List.getElem?_append_left (List.getElem?_eq_some_iff.1 hj).1]; exact hj
      have := cellAt h2 this
      rw [addr_mk_add]
      simpa using this
  have hs : ∀ off len sz x, RepS A w0 w β T (.sr i off len sz) x → RepS A w0 w β T1 (.sl true ((cs.drop off).take (len * sz)) len) x := fun off len sz x hx => by
    simp only [RepS, Rep] at hx ⊢
    rcases hx with hx | ⟨_, hx⟩
    · exact absurd hli (not_live_gone hx)
    · rcases hx with ⟨b, cap, n, hb, rfl, h4, h5, h6, h7⟩ | ⟨rfl, a, rfl⟩
      · obtain ⟨h1, us, sp, t, h2, h3⟩ := hblk b hb
        refine .inr ⟨⟨b, off, none⟩, cap, (us.drop off).take (len * sz), rfl, h4, h5, (h3.drop off).take _, fun j u hj => ⟨h1, ?_⟩⟩
        have hj' : us[off + j]? = some u := by
          rw [List.getElem?_take] at hj
          split at hj
          · rw [List.getElem?_drop] at hj; exact hj
          · cases hj
        have : (us ++ sp)[off + j]? = some u := by
          rw [List.getElem?_append_left (List.getElem?_eq_some_iff.1 hj').1]; exact hj'
        have := cellAt h2 this
        rw [addr_mk_add]
        exact this
      · cases a with
        | none => exact .inl ⟨rfl, by simp, rfl⟩
        | some a => exact .inr ⟨a, 0, [], rfl, Nat.le_refl _, by decide, by simp [RepL], by simp⟩
  have hrep : ∀ m x, RepS A w0 w β T m x → RepS A w0 w β T1 (frz i cs m) x := fun m x hx =>
    Rep.frz hok (fun j hj => ⟨fun h => (hgone j).2 (.inr h), fun h => (hlive j).2 ⟨hj, h⟩⟩) hr hs m x hx
  have hrepL : ∀ ms us, RepSL A w0 w β T ms us → RepSL A w0 w β T1 (frzL i cs ms) us := fun m x hx =>
    RepL.frz hok (fun j hj => ⟨fun h => (hgone j).2 (.inr h), fun h => (hlive j).2 ⟨hj, h⟩⟩) hr hs m x hx
  refine ⟨β, ⟨hP.os, hP.tape, hP.output, hP.size, hP.frame, ⟨fun j b hj hb => hP.wf.bnd j b ((hlive j).1 hj).2 hb, fun j k b hj hk hb hb' => hP.wf.inj j k b ((hlive j).1 hj).2 ((hlive k).1 hk).2 hb hb', fun j fr cs' hc => ?_⟩, ?_,
    fun j hj => ⟨fun h => (hgone j).2 (.inr ((hP.old j hj).1 h)), fun h => (hP.old j hj).2 ((hlive j).1 h).2⟩, fun j b hj hl hb => hP.new j b hj ((hlive j).1 hl).2 hb⟩, fun k => hrep _ _ (hE k)⟩
  · have hj : j ≠ i := fun e => by subst e; rw [hself] at hc; cases hc
    rw [hget j hj] at hc
    cases hd : T[j]? with
    | none => rw [hd] at hc; simp at hc
    | some o =>
      rw [hd] at hc
      cases o with
      | gone => simp [frzOb] at hc
      | cells fr' ms =>
        simp only [Option.map_some, frzOb, Option.some.injEq, Ob.cells.injEq] at hc
        obtain ⟨rfl, rfl⟩ := hc
        rcases hP.wf.obj j fr' ms hd with ⟨h4, rfl⟩ | ⟨b, us, sp, t, h4, h5, h6, h7⟩
        · exact .inl ⟨h4, rfl⟩
        · exact .inr ⟨b, us, sp, t, h4, h5, h6, hrepL _ _ h7⟩
  · have := hP.len
    simp only [List.length_map, List.length_set]
    exact this
end Go.Tl
