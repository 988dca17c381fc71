/- The tree logic, part MZ: a region of drawn order whose loads all come before whatever writes. -/
import Derived.Test.YtpbgiccloeihcaaTlAA
namespace Go.Tl
open Go.RowKit

section
variable {P : Program} {ops : Array Oper} {Q : Exit → Act → World → Prop} {S : World → Prop}

/-- Whom an operation waits for. -/
def edgesOf (ops : Array Oper) (i : Nat) : List Nat :=
  match ops[i]? with
  | some o => (o.after.toList.filter (Region.binds .any)).map (·.on)
  | none => []

def addAll : List Nat → List Nat → List Nat
  | l, [] => l
  | l, x :: xs => addAll (if l.contains x then l else x :: l) xs

def closeL (ops : Array Oper) : Nat → List Nat → List Nat
  | 0, l => l
  | n + 1, l => if (addAll l (l.flatMap (edgesOf ops))).length = l.length then l else closeL ops n (addAll l (l.flatMap (edgesOf ops)))

def Closed (ops : Array Oper) (listed : Array Bool) : Prop := ∀ j, listed.getD j false = true → ∀ k ∈ edgesOf ops j, listed.getD k false = true

theorem addAll_listed {listed : Array Bool} : ∀ (xs l : List Nat), (∀ k ∈ l, listed.getD k false = true) → (∀ k ∈ xs, listed.getD k false = true) → ∀ k ∈ addAll l xs, listed.getD k false = true
  | [], l, h, _, k, hk => h k hk
  | x :: xs, l, h, hx, k, hk => by
    refine addAll_listed xs _ (fun k hk => ?_) (fun k hk => hx k (List.mem_cons_of_mem _ hk)) k hk
    split at hk
    · exact h k hk
    · rcases List.mem_cons.1 hk with rfl | hk
      · exact hx _ (List.mem_cons_self ..)
      · exact h k hk

theorem closeL_listed {listed : Array Bool} (hc : Closed ops listed) : ∀ (n : Nat) (l : List Nat), (∀ k ∈ l, listed.getD k false = true) → ∀ k ∈ closeL ops n l, listed.getD k false = true
  | 0, l, h => h
  | n + 1, l, h => by
    unfold closeL
    split
    · exact h
    · exact closeL_listed hc n _ (addAll_listed _ _ h fun k hk => by
        obtain ⟨j, hj, hk⟩ := List.mem_flatMap.1 hk
        exact hc j (h j hj) k hk)

theorem ready_edges {j : Nat} {listed : Array Bool} (h : j ∈ Region.ready .any ops listed) : ∀ k ∈ edgesOf ops j, listed.getD k false = true := by
  obtain ⟨_, o, ho, hall⟩ := mem_ready.1 h
  intro k hk
  simp only [edgesOf, ho, List.mem_map, List.mem_filter, Array.mem_toList_iff] at hk
  obtain ⟨e, ⟨he, hb⟩, rfl⟩ := hk
  exact hall e he hb

theorem Closed.step {j : Nat} {listed : Array Bool} (hc : Closed ops listed) (h : j ∈ Region.ready .any ops listed) : Closed ops (listed.setIfInBounds j true) := by
  intro i hi k hk
  by_cases e : j = i
  · subst e
    exact getD_set_true (ready_edges h k hk)
  · rw [getD_set_ne false e] at hi
    exact getD_set_true (hc i hi k hk)

/-- These wait for all of those. -/
def waitAll (ops : Array Oper) (pre : List Nat) : Bool :=
  (List.range ops.size).all fun z => pre.contains z || (let l := closeL ops 40 (edgesOf ops z); pre.all fun i => l.contains i)

/-- Whatever order; and 'S' holds behind each of 'pre'. -/
def wpAnyZ (P : Program) (ops : Array Oper) (Q : Exit → Act → World → Prop) (S : World → Prop) (pre : List Nat) : Nat → Array Bool → Act → World → Prop
  | 0, listed, a, w => Region.ready .any ops listed = [] ∧ Q .normal a w
  | fuel + 1, listed, a, w =>
    (Region.ready .any ops listed = [] → Q .normal a w) ∧
    ∀ i ∈ Region.ready .any ops listed, wpOp P ops Q i (fun a' w' => (i ∈ pre → S w') ∧ wpAnyZ P ops Q S pre fuel (listed.setIfInBounds i true) a' w') a w

theorem wpAny_of_Z {pre : List Nat} : ∀ (fuel : Nat) (listed : Array Bool) (a : Act) (w : World), wpAnyZ P ops Q S pre fuel listed a w → wpAny P .any ops Q fuel listed a w
  | 0, _, _, _, h => h
  | fuel + 1, _, _, _, h => ⟨h.1, fun i hi => wpOp_mono (fun a' w' h' => wpAny_of_Z fuel _ a' w' h'.2) (h.2 i hi)⟩

theorem wpAnyZ_of {pre : List Nat} : ∀ (fuel : Nat) (listed : Array Bool) (a : Act) (w : World), (∀ i ∈ pre, listed.getD i true = true) → wpAny P .any ops Q fuel listed a w → wpAnyZ P ops Q S pre fuel listed a w
  | 0, _, _, _, _, h => h
  | fuel + 1, listed, _, _, hp, h => ⟨h.1, fun i hi => wpOp_mono (fun a' w' h' => ⟨fun hm => (by
      have := hp i hm
      rw [(mem_ready.1 hi).1] at this
      cases this), wpAnyZ_of fuel _ a' w' (fun k hk => by
        by_cases e : i = k
        · subst e
          have := hp i hk
          rw [(mem_ready.1 hi).1] at this
          cases this
        · rw [getD_set_ne true e]; exact hp k hk) h'⟩) (h.2 i hi)⟩

theorem wpAnyZ_first {pre : List Nat} {i : Nat} {oi : Oper} {v : Value} (hi : ops[i]? = some oi) (hsel : ∀ (j : Nat) (o : Oper) cs b, ops[j]? = some o → o.op ≠ .select cs b)
    (hQ : ∀ c a w, Q (.panic c) (a.put oi.dst v) w → Q (.panic c) a w) (hw : waitAll ops pre = true) (hip : i ∈ pre) :
    ∀ (fuel : Nat) (listed : Array Bool) (a : Act) (w : World), Closed ops listed →
      (∀ j oj, ops[j]? = some oj → j ≠ i → listed.getD j true = false → (∀ e ∈ oj.after, Region.binds .any e = true → e.on ≠ i) → oi.apart ops oj = true) →
      i ∈ Region.ready .any ops listed → YieldsIf P ops S oi v a → S w →
      wpAnyZ P ops Q S pre fuel (listed.setIfInBounds i true) (a.put oi.dst v) w → wpAnyZ P ops Q S pre (fuel + 1) listed a w := by
  intro fuel
  induction fuel with
  | zero =>
    intro listed a w _ _ hr hy hS H
    refine ⟨fun h => (by rw [h] at hr; cases hr), fun j hj => ?_⟩
    by_cases hji : j = i
    · subst hji; exact hy.wpOp hi hS ⟨fun _ => hS, H⟩
    · have := ready_mono hj hji
      rw [H.1] at this
      cases this
  | succ fuel ih =>
    intro listed a w hcl hfree hr hy hS H
    refine ⟨fun h => (by rw [h] at hr; cases hr), fun j hj => ?_⟩
    by_cases hji : j = i
    · subst hji; exact hy.wpOp hi hS ⟨fun _ => hS, H⟩
    · have h1 := H.2 j (ready_mono hj hji)
      obtain ⟨hjun, oj, hoj, hall⟩ := mem_ready.1 hj
      have hnot : ∀ e ∈ oj.after, Region.binds .any e = true → e.on ≠ i := fun e he hb heq => by
        have h1 := hall e he hb
        have h0 := (mem_ready.1 hr).1
        rw [heq] at h1
        rcases Nat.lt_or_ge i listed.size with h' | h'
        · simp [h'] at h0 h1; rw [h0] at h1; cases h1
        · simp [Array.getElem?_eq_none h'] at h1
      have hjp : j ∈ pre := by
        rcases Classical.em (j ∈ pre) with h | h
        · exact h
        · exfalso
          have h2 := List.all_eq_true.1 hw j (List.mem_range.2 (Array.getElem?_eq_some_iff.1 hoj).1)
          simp only [Bool.or_eq_true, List.contains_iff_mem, h, false_or, List.all_eq_true] at h2
          have h3 := closeL_listed hcl _ _ (ready_edges hj) i (h2 i hip)
          have h0 := (mem_ready.1 hr).1
          rcases Nat.lt_or_ge i listed.size with h' | h'
          · simp [h'] at h0 h3; rw [h0] at h3; cases h3
          · simp [Array.getElem?_eq_none h'] at h3
      have h2 := wpOp_putIf hoj (hfree j oj hoj hji hjun hnot) (fun cs b => hsel i oi cs b hi) (fun cs b => hsel j oj cs b hoj) hQ hy h1
      have hfree' : ∀ k ok, ops[k]? = some ok → k ≠ i → (listed.setIfInBounds j true).getD k true = false →
          (∀ e ∈ ok.after, Region.binds .any e = true → e.on ≠ i) → oi.apart ops ok = true := fun k ok hk hki hun hno => by
        refine hfree k ok hk hki ?_ hno
        by_cases hjk : j = k
        · subst hjk; exact hjun
        · rw [getD_set_ne true hjk] at hun; exact hun
      refine wpOp_mono (fun a' w' h3 => ⟨fun _ => h3.2.1 hjp, ih (listed.setIfInBounds j true) a' w' (hcl.step hj) hfree' (ready_mono hr (Ne.symm hji)) h3.1 (h3.2.1 hjp) ?_⟩) h2
      rw [Array.setIfInBounds_comm _ _ hji]
      exact h3.2.2
end

/-- These may be taken first, one by one; what is listed then. -/
def preOk (ops : Array Oper) : List Nat → Array Bool → Bool
  | [], _ => true
  | i :: is, l => (match ops[i]? with | some o => flatKind o.op || isLoad o.op | none => false) && Region.free .any ops l i && (Region.ready .any ops l).contains i && preOk ops is (l.setIfInBounds i true)
def listAll : List Nat → Array Bool → Array Bool
  | [], l => l
  | i :: is, l => listAll is (l.setIfInBounds i true)

section
variable {P : Program} {A : Nat → Prop} {w0 : World} {β0 : Nat → Option Nat} {T0 : Tbl} {w : World} {β : Nat → Option Nat} {T : Tbl}

theorem runO_pre {n : Nat} {ops : Array Oper} {K : Env → Tbl → Prop} {R : Act → World → Prop} {pre : List Nat} (hsel : Region.noSelect ops = true) (hw : waitAll ops pre = true) (rest : List Oper)
    (hR : ∀ env a (listed : Array Bool) fuel, SatB A w0 β0 T0 n env T a w β → runO P n ops K rest env T → fuel = ops.size - pre.length → listed = listAll pre (Array.replicate ops.size false) →
      wpAny P .any ops (fun e a w => e = .normal ∧ R a w) fuel listed a w) :
    ∀ (is done : List Nat) (fuel : Nat) (listed : Array Bool) (env : Env) (a : Act), pre = done ++ is → listed = listAll done (Array.replicate ops.size false) → fuel = ops.size - done.length → pre.length ≤ ops.size → Closed ops listed → preOk ops is listed = true → SatB A w0 β0 T0 n env T a w β →
      (∀ i ∈ done, listed.getD i true = true) →
      runO P n ops K (is.filterMap (ops[·]?) ++ rest) env T → wpAnyZ P ops (fun e a w => e = .normal ∧ R a w) (fun w' => w'.heap = w.heap) pre fuel listed a w
  | [], done, fuel, listed, env, a, hp, hl, hf, hn, hcl, hok, hS, hd, h => by
    simp only [List.append_nil] at hp
    subst hp
    exact wpAnyZ_of fuel listed a w hd (hR env a listed fuel hS (by simpa using h) hf hl)
  | i :: is, done, fuel, listed, env, a, hp, hl, hf, hn, hcl, hok, hS, hd, h => by
    simp only [preOk, Bool.and_eq_true] at hok
    obtain ⟨⟨⟨hkind, hfree⟩, hready⟩, hok⟩ := hok
    cases ho : ops[i]? with
    | none => rw [ho] at hkind; cases hkind
    | some o =>
      rw [ho] at hkind
      simp only at hkind
      have hr : i ∈ Region.ready .any ops listed := by simpa using hready
      rw [List.filterMap_cons] at h
      simp only [ho] at h
      rw [List.cons_append] at h
      simp only [runO] at h
      have hip : i ∈ pre := by rw [hp]; simp
      have hlen : done.length < pre.length := by rw [hp]; simp
      obtain ⟨fuel, rfl⟩ : ∃ f, fuel = f + 1 := ⟨fuel - 1, by omega⟩
      have hd' : ∀ k ∈ done ++ [i], (listed.setIfInBounds i true).getD k true = true := fun k hk => by
        by_cases e : i = k
        · subst e
          rcases Nat.lt_or_ge i listed.size with h' | h'
          · simp [h']
          · simp [Array.getElem?_eq_none h']
        · rw [getD_set_ne true e]
          rcases List.mem_append.1 hk with hk | hk
          · exact hd k hk
          · simp at hk; exact absurd hk.symm e
      have hl' : listed.setIfInBounds i true = listAll (done ++ [i]) (Array.replicate ops.size false) := by
        have : ∀ (d : List Nat) (l : Array Bool), listAll (d ++ [i]) l = (listAll d l).setIfInBounds i true := by
          intro d
          induction d with
          | nil => intro l; rfl
          | cons x d ih => intro l; exact ih _
        rw [this, ← hl]
      have fin : ∀ v m, YieldsIf P ops (fun w' => w'.heap = w.heap) o v a → RepS A w0 w β T m v → runO P n ops K (is.filterMap (ops[·]?) ++ rest) (updO n env o.dst m) T →
          wpAnyZ P ops (fun e a w => e = .normal ∧ R a w) (fun w' => w'.heap = w.heap) pre (fuel + 1) listed a w := fun v m hy hm hp' =>
        wpAnyZ_first ho (Region.noSelect_spec hsel) (fun c a' w hq => by cases hq.1) hw hip fuel listed a w hcl (Region.free_spec ho hfree) hr hy rfl
          (runO_pre hsel hw rest hR is (done ++ [i]) fuel _ _ _ (by rw [hp]; simp) hl' (by simp; omega) hn (hcl.step hr) hok ⟨put_defers.trans hS.defers, put_size.trans hS.size, hS.post, hS.env.put hS.size hm⟩ hd' hp')
      rcases guard_elim hS.env h with ⟨hwt, hV⟩ | ⟨hwt, hp'⟩
      · by_cases hfl : flatKind o.op = true
        · obtain ⟨y, m, h1, h2, h3⟩ := opV_flat hS.env hS.post hfl hV
          exact fin y m (.inl ⟨hwt, fun w' _ => h1 w'⟩) h2 h3
        · have hld : isLoad o.op = true := by simpa [hfl] using hkind
          obtain ⟨y, m, h1, h2, h3⟩ := opV_isLoad hS.env hS.post hld hV
          exact fin y m (.inl ⟨hwt, h1⟩) h2 h3
      · exact fin undef .any (.inr ⟨hwt, rfl⟩) (by simp [RepS, Rep]) hp'
end
end Go.Tl
