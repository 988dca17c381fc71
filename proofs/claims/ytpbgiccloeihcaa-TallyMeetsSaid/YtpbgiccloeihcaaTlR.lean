/- The tree logic, part R: what a law is handed is trees; and a law's contract is its row. -/
import Derived.Test.YtpbgiccloeihcaaTlQ
import Derived.Carry
import Derived.OpenShut
import Derived.DataElems
import Derived.RowKit
namespace Go.Tl
open Go.RowKit Go.ChangeShapes Go.WideShapes

/-- The shape of a type's values. -/
inductive Sh where
  | bool | int (k : IntKind) | str | sl (e : Sh) | unit | pair (a b : Sh)
  deriving Inhabited, DecidableEq

def Sh.width : Sh → Nat
  | .unit => 0
  | .pair a b => a.width + b.width
  | _ => 1

def Tree : Sh → List M → Prop
  | .bool, cs => ∃ b, cs = [.v (.bool b)]
  | .int k, cs => ∃ n, cs = [.v (.int k n)] ∧ k.min ≤ n ∧ n ≤ k.max
  | .str, cs => ∃ s : ByteArray, cs = [.v (.string s)] ∧ s.size ≤ maxLen
  | .sl e, cs => ∃ xss : List (List M), cs = [.sl false xss.flatten xss.length] ∧ xss.length ≤ maxLen ∧ ∀ xs ∈ xss, Tree e xs
  | .unit, cs => cs = []
  | .pair a b, cs => ∃ xs ys, cs = xs ++ ys ∧ Tree a xs ∧ Tree b ys

def fieldsSh (P : Program) (sh : TypeId → Option Sh) : Nat → List Field → Option Sh
  | _, [] => some .unit
  | off, f :: fs => if f.offset = off then (sh f.type).bind fun a => if P.cellsOf f.type = a.width then (fieldsSh P sh (off + a.width) fs).map fun b => .pair a b else none else none

def rowSh (a : Sh) : Nat → Sh
  | 0 => .unit
  | n + 1 => .pair a (rowSh a n)

def shOf (P : Program) : Nat → TypeId → Option Sh
  | 0, _ => none
  | fuel + 1, t =>
    match P.underlying t with
    | some .bool => some .bool
    | some (.int k) => some (.int k)
    | some .string => some .str
    | some (.slice e) => (shOf P fuel e).bind fun a => if P.cellsOf e = a.width then some (.sl a) else none
    | some (.struct fs) => (fieldsSh P (shOf P fuel) 0 fs.toList).bind fun s => if P.cellsOf t = s.width then some s else none
    | some (.array n e) => (shOf P fuel e).bind fun a => if P.cellsOf e = a.width ∧ P.cellsOf t = (rowSh a n).width then some (rowSh a n) else none
    | _ => none

theorem Tree.width : ∀ {s : Sh} {cs : List M}, Tree s cs → cs.length = s.width
  | .bool, _, ⟨_, h⟩ => by rw [h]; rfl
  | .int _, _, ⟨_, h, _⟩ => by rw [h]; rfl
  | .str, _, ⟨_, h, _⟩ => by rw [h]; rfl
  | .sl _, _, ⟨_, h, _⟩ => by rw [h]; rfl
  | .unit, _, h => by rw [show _ = [] from h]; rfl
  | .pair a b, _, ⟨_, _, h, h1, h2⟩ => by rw [h, List.length_append, h1.width, h2.width]; rfl

theorem rowSh_width (a : Sh) (n : Nat) : (rowSh a n).width = n * a.width := by
  induction n with
  | zero => simp [rowSh, Sh.width]
  | succ n ih => simp [rowSh, Sh.width, ih, Nat.succ_mul]; omega

section
variable {H : Type} {enc : TypeId × Value → H} {P : Program} {w : World} {base : Nat} {sp : Nat → Bool} {held : Bool} {β : Nat → Option Nat}

abbrev okNil (w : World) (β : Nat → Option Nat) : Bool → Nat → Prop := okB w β [] w.heap.size (fun _ => True)

theorem okNil_of_cell {a : Addr} {u : Value} (h : w.cell? a = some u) : okNil w β false a.block := by
  refine ⟨?_, fun i hi => absurd hi (not_live_nil i), by simp, .inl trivial⟩
  unfold World.cell? at h
  rcases Nat.lt_or_ge a.block w.heap.size with h1 | h1
  · exact h1
  · rw [Array.getElem?_eq_none h1] at h
    simp at h

theorem repL_append {ok : Bool → Nat → Prop} {T : Tbl} : ∀ {ms ms' : List M} {us us' : List Value}, RepL w β ok T ms us → RepL w β ok T ms' us' → RepL w β ok T (ms ++ ms') (us ++ us')
  | [], _, us, _, h, h' => by simp only [RepL] at h; subst h; exact h'
  | m :: ms, ms', us, us', h, h' => by
    simp only [RepL] at h
    obtain ⟨u, vs, rfl, h1, h2⟩ := h
    simp only [List.cons_append, RepL]
    exact ⟨u, vs ++ us', rfl, h1, repL_append h2 h'⟩

theorem cells?_get {n : Nat} {a : Addr} {cs : List Value} (h : w.cells? base a n = some cs) : cs.length = n ∧ ∀ (j : Nat) (u : Value), cs[j]? = some u → w.cell? (a.add j) = some u := by
  unfold World.cells? at h
  split at h
  · refine ⟨by simpa using mapM_some_length h, fun j u hj => ?_⟩
    have hl : j < cs.length := (List.getElem?_eq_some_iff.1 hj).1
    have hn : cs.length = n := by simpa using mapM_some_length h
    have := mapM_some_get h j j (by simp [show j < n by omega])
    rw [hj] at this
    exact this
  · cases h

/-- One type's reading is a tree. -/
def Treads (enc : TypeId × Value → H) (P : Program) (w : World) (base : Nat) (sp : Nat → Bool) (held : Bool) (β : Nat → Option Nat) (t : TypeId) (s : Sh) : Prop :=
  ∀ (m : Nat) (cs : List Value) (x : DataW H × List MemPlace), DataW.trod enc P w base sp held m t cs = some x → ∃ ms, Tree s ms ∧ RepL w β (okNil w β) [] ms cs

theorem fields_tree {sh : TypeId → Option Sh} (hsh : ∀ t s, sh t = some s → Treads enc P w base sp held β t s) {cs : List Value} {m : Nat} :
    ∀ (fs : List Field) (off : Nat) (s : Sh), fieldsSh P sh off fs = some s → (∀ f ∈ fs, ∃ x, DataW.trod enc P w base sp held m f.type ((cs.drop f.offset).take (P.cellsOf f.type)) = some x) → off + s.width = cs.length →
      ∃ ms, Tree s ms ∧ RepL w β (okNil w β) [] ms (cs.drop off)
  | [], off, s, h, _, hl => by
    simp only [fieldsSh, Option.some.injEq] at h
    subst h
    refine ⟨[], rfl, ?_⟩
    simp only [Sh.width, Nat.add_zero] at hl
    simp only [RepL]
    exact List.drop_eq_nil_of_le (by omega)
  | f :: fs, off, s, h, hf, hl => by
    simp only [fieldsSh] at h
    split at h
    · rename_i ho
      cases ha : sh f.type with
      | none => rw [ha] at h; simp at h
      | some a =>
        rw [ha] at h
        simp only [Option.bind_some] at h
        split at h
        · rename_i hw
          cases hb : fieldsSh P sh (off + a.width) fs with
          | none => rw [hb] at h; simp at h
          | some b =>
            rw [hb] at h
            simp only [Option.map_some, Option.some.injEq] at h
            subst h
            simp only [Sh.width] at hl
            obtain ⟨x, hx⟩ := hf f (List.mem_cons_self ..)
            obtain ⟨ms, h1, h2⟩ := hsh _ _ ha m _ x hx
            obtain ⟨ns, h3, h4⟩ := fields_tree hsh fs _ b hb (fun g hg => hf g (List.mem_cons_of_mem _ hg)) (by omega)
            refine ⟨ms ++ ns, ⟨ms, ns, rfl, h1, h3⟩, ?_⟩
            have e : cs.drop off = (cs.drop off).take a.width ++ cs.drop (off + a.width) := by
              rw [← List.drop_drop, List.take_append_drop]
            rw [e]
            rw [ho, hw] at h2
            exact repL_append h2 h4
        · cases h
    · cases h

theorem row_tree {t : TypeId} {a : Sh} (ha : Treads enc P w base sp held β t a) {cs : List Value} {m : Nat} (hw : P.cellsOf t = a.width) :
    ∀ (n i : Nat), (∀ j, i ≤ j → j < i + n → ∃ x, DataW.trod enc P w base sp held m t ((cs.drop (j * P.cellsOf t)).take (P.cellsOf t)) = some x) → (i + n) * a.width = cs.length →
      ∃ ms, Tree (rowSh a n) ms ∧ RepL w β (okNil w β) [] ms (cs.drop (i * a.width))
  | 0, i, _, hl => by
    refine ⟨[], rfl, ?_⟩
    simp only [RepL]
    exact List.drop_eq_nil_of_le (by rw [← hl]; simp)
  | n + 1, i, hf, hl => by
    obtain ⟨x, hx⟩ := hf i (Nat.le_refl _) (by omega)
    obtain ⟨ms, h1, h2⟩ := ha m _ x hx
    obtain ⟨ns, h3, h4⟩ := row_tree ha hw n (i + 1) (fun j h h' => hf j (by omega) (by omega)) (by rw [← hl]; congr 1; omega)
    refine ⟨ms ++ ns, ⟨ms, ns, rfl, h1, h3⟩, ?_⟩
    have e : cs.drop (i * a.width) = (cs.drop (i * a.width)).take a.width ++ cs.drop ((i + 1) * a.width) := by
      rw [Nat.succ_mul, ← List.drop_drop, List.take_append_drop]
    rw [e]
    rw [hw] at h2
    exact repL_append h2 h4

theorem elems_tree {e : TypeId} {s : Sh} (hs : Treads enc P w base sp held β e s) (hw : P.cellsOf e = s.width) {a : Addr} {m : Nat} :
    ∀ (k : Nat), (∀ i, i < k → ∃ cs x, w.cells? base (a.add (i * P.cellsOf e)) (P.cellsOf e) = some cs ∧ DataW.trod enc P w base sp held m e cs = some x) →
      ∃ (xss : List (List M)) (us : List Value), xss.length = k ∧ (∀ xs ∈ xss, Tree s xs) ∧ RepL w β (okNil w β) [] xss.flatten us ∧ us.length = k * s.width ∧ ∀ (j : Nat) (u : Value), us[j]? = some u → w.cell? (a.add j) = some u
  | 0, _ => ⟨[], [], rfl, by simp, by simp [RepL], by simp, by simp⟩
  | k + 1, h => by
    obtain ⟨xss, us, h1, h2, h3, h4, h5⟩ := elems_tree hs hw k (fun i hi => h i (by omega))
    obtain ⟨cs, x, h6, h7⟩ := h k (by omega)
    obtain ⟨ms, h8, h9⟩ := hs m cs x h7
    obtain ⟨hl, hc⟩ := cells?_get h6
    refine ⟨xss ++ [ms], us ++ cs, by simp [h1], fun xs hx => ?_, ?_, by simp [h4, hl, hw, Nat.succ_mul], fun j u hj => ?_⟩
    · rw [List.mem_append, List.mem_singleton] at hx
      rcases hx with hx | rfl
      · exact h2 xs hx
      · exact h8
    · rw [List.flatten_append]
      simp only [List.flatten_cons, List.flatten_nil, List.append_nil]
      exact repL_append h3 h9
    · rcases Nat.lt_or_ge j us.length with hlt | hge
      · rw [List.getElem?_append_left hlt] at hj
        exact h5 j u hj
      · rw [List.getElem?_append_right hge] at hj
        have := hc _ u hj
        rw [Addr.add_add, hw, ← h4] at this
        rwa [Nat.add_sub_cancel' hge] at this

theorem treads : ∀ (fuel : Nat) (t : TypeId) (s : Sh), shOf P fuel t = some s → Treads enc P w base sp held β t s
  | 0, _, _, h => by cases h
  | fuel + 1, t, s, h => by
    intro m cs x hx
    unfold shOf at h
    split at h
    · rename_i ht
      cases h
      obtain ⟨b, rfl, _⟩ := DataW.trod_bool ht hx
      exact ⟨_, ⟨b, rfl⟩, by simp [RepL, Rep]⟩
    · rename_i k ht
      cases h
      obtain ⟨n, rfl, _, hwf⟩ := DataW.trod_int ht hx
      simp only [Lit.wf, Bool.and_eq_true, decide_eq_true_eq] at hwf
      exact ⟨_, ⟨n, rfl, hwf.1, hwf.2⟩, by simp [RepL, Rep]⟩
    · rename_i ht
      cases h
      obtain ⟨b, rfl, _, hl⟩ := DataW.trod_string ht hx
      exact ⟨_, ⟨b, rfl, hl⟩, by simp [RepL, Rep]⟩
    · rename_i e ht
      cases ha : shOf P fuel e with
      | none => rw [ha] at h; simp at h
      | some a =>
        rw [ha] at h
        simp only [Option.bind_some] at h
        split at h
        · rename_i hw
          cases h
          have hIH := treads fuel e a ha
          rcases DataW.trod_slice ht hx with ⟨rfl, _⟩ | ⟨ad, len, cap, elems, rest, n, _, rfl, _, hb, hlc, hcm, hel, hi, _⟩
          · refine ⟨[.sl false [] 0], ⟨[], rfl, by simp, by simp⟩, ?_⟩
            simp [RepL, Rep]
          · obtain ⟨xss, us, h1, h2, h3, h4, h5⟩ := elems_tree hIH hw (a := ad) (m := n) len (fun i hlt => by
              have := hi i hlt
              rw [List.getElem?_eq_getElem (by omega)] at this
              rw [Option.bind_eq_some_iff] at this
              obtain ⟨cs, h1, h2⟩ := this
              exact ⟨cs, _, h1, h2⟩)
            refine ⟨[.sl false xss.flatten xss.length], ⟨xss, rfl, by omega, h2⟩, ?_⟩
            simp only [RepL, Rep]
            refine ⟨_, [], rfl, .inr ⟨ad, cap, us, by rw [h1], by omega, hcm, h3, fun j u hj => ?_⟩, rfl⟩
            have hc := h5 j u hj
            have := okNil_of_cell (β := β) hc
            rw [add_block] at this
            exact ⟨this, hc⟩
        · cases h
    · rename_i fs ht
      cases ha : fieldsSh P (shOf P fuel) 0 fs.toList with
      | none => rw [ha] at h; simp at h
      | some a =>
        rw [ha] at h
        simp only [Option.bind_some] at h
        split at h
        · rename_i hw
          cases h
          obtain ⟨xs, n, _, _, hl, hlen, hf⟩ := DataW.trod_struct ht hx
          obtain ⟨ms, h1, h2⟩ := fields_tree (sh := shOf P fuel) (fun t s h => treads fuel t s h) (cs := cs) (m := n) fs.toList 0 s ha (fun f hf' => by
            obtain ⟨i, hi⟩ := List.getElem?_of_mem hf'
            have hi' : fs[i]? = some f := by simpa using hi
            have := hf i f hi'
            have hlt : i < xs.length := by
              have := (Array.getElem?_eq_some_iff.1 hi').1
              omega
            rw [List.getElem?_eq_getElem hlt] at this
            exact ⟨_, this⟩) (by omega)
          exact ⟨ms, h1, by simpa using h2⟩
        · cases h
    · rename_i n e ht
      cases ha : shOf P fuel e with
      | none => rw [ha] at h; simp at h
      | some a =>
        rw [ha] at h
        simp only [Option.bind_some] at h
        split at h
        · rename_i hw
          cases h
          obtain ⟨xs, m', _, _, hl, hlen, hf⟩ := DataW.trod_array ht hx
          obtain ⟨ms, h1, h2⟩ := row_tree (treads fuel e a ha) (cs := cs) (m := m') hw.1 n 0 (fun j _ hj => by
            have := hf j (by omega)
            rw [List.getElem?_eq_getElem (by omega)] at this
            exact ⟨_, this⟩) (by rw [Nat.zero_add, hl, hw.2, rowSh_width])
          exact ⟨ms, h1, by simpa using h2⟩
        · cases h
    · cases h
end
end Go.Tl
