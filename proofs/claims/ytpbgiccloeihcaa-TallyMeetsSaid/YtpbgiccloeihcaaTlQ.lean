/- The tree logic, part Q: the laws of the operations as equations, for the simplifier. -/
import Derived.Test.YtpbgiccloeihcaaTlP
namespace Go.Tl
section
variable {P : Program} {T : Tbl} {t : TypeId} {n : Nat} {z : List Value}

def ldM (T : Tbl) (m : M) (K : M → Prop) : Prop :=
  match behind T m with
  | some (cs, off) => (match cs[off]? with
    | some c => K c
    | none => False)
  | none => False

def ldA (n : Nat) (T : Tbl) (m : M) (K : M → Prop) : Prop :=
  match behind T m with
  | some (cs, off) => off + n ≤ cs.length ∧ K (.agg ((cs.drop off).take n))
  | none => False

theorem opLoad_flat {k : LK} (h : lay P t = some (k, n, z)) (hk : k.ag = false) (m : M) (K : M → Prop) : opLoad P T t m K = ldM T m K := by
  unfold opLoad ldM
  apply propext
  constructor
  · rintro ⟨k', n', z', hl, cs, off, hb, hh⟩
    rw [h] at hl; cases hl
    rw [hb]
    rw [hk] at hh
    obtain ⟨c, h1, h2⟩ := hh
    simp only [h1]; exact h2
  · intro hh
    refine ⟨k, n, z, h, ?_⟩
    split at hh
    · rename_i cs off hb
      refine ⟨cs, off, hb, ?_⟩
      rw [hk]
      split at hh
      · rename_i c hc
        exact ⟨c, hc, hh⟩
      · exact hh.elim
    · exact hh.elim

theorem opLoad_ag {k : LK} (h : lay P t = some (k, n, z)) (hk : k.ag = true) (m : M) (K : M → Prop) : opLoad P T t m K = ldA n T m K := by
  unfold opLoad ldA
  apply propext
  constructor
  · rintro ⟨k', n', z', hl, cs, off, hb, hh⟩
    rw [h] at hl; cases hl
    rw [hb]
    rw [hk] at hh
    exact hh
  · intro hh
    refine ⟨k, n, z, h, ?_⟩
    split at hh
    · rename_i cs off hb
      refine ⟨cs, off, hb, ?_⟩
      rw [hk]
      exact hh
    · exact hh.elim

def stM (n : Nat) (T : Tbl) (m val : M) (K : Tbl → Prop) : Prop :=
  match m with
  | .ref id off => (match T[id]? with
    | some (.cells fr cs) => (match cellsOf T val with
      | some vs => vs.all (oneCell T) = true ∧ vs.length = n ∧ off + n ≤ cs.length ∧ K (T.set id (.cells fr (cs.take off ++ vs ++ cs.drop (off + n))))
      | none => False)
    | _ => False)
  | _ => False

theorem opStore_eq {k : LK} (h : lay P t = some (k, n, z)) (m val : M) (K : Tbl → Prop) : opStore P T t m val K = stM n T m val K := by
  unfold opStore stM
  apply propext
  constructor
  · rintro ⟨k', n', z', hl, hh⟩
    rw [h] at hl; cases hl
    split at hh
    · obtain ⟨fr, cs, h1, vs, h2, h3⟩ := hh
      simp only [h1, h2]; exact h3
    · exact hh.elim
  · intro hh
    refine ⟨k, n, z, h, ?_⟩
    split at hh
    · split at hh
      · rename_i fr cs h1
        split at hh
        · rename_i vs h2
          exact ⟨fr, cs, h1, vs, h2, hh⟩
        · exact hh.elim
      · exact hh.elim
    · exact hh.elim

theorem opBuild_st {ps : List (Nat × Nat)} {ags : List Bool} (h : lay P t = some (.st ps ags, n, z)) (parts : List (Nat × M)) (K : M → Prop) :
    opBuild P T t parts K = (match fillM T (ps[·]?) (z.map .v) parts with | some cs => K (.agg cs) | none => False) := by
  unfold opBuild
  apply propext
  constructor
  · rintro ⟨k', n', z', hl, hh⟩
    rw [h] at hl; cases hl
    obtain ⟨cs, h1, h2⟩ := hh
    rw [h1]; exact h2
  · intro hh
    refine ⟨_, n, z, h, ?_⟩
    split at hh
    · rename_i cs h1
      exact ⟨cs, h1, hh⟩
    · exact hh.elim

theorem opBuild_ar {m e : Nat} {ag : Bool} (h : lay P t = some (.ar m e ag, n, z)) (parts : List (Nat × M)) (K : M → Prop) :
    opBuild P T t parts K = (match fillM T (fun i => some (i * e, e)) (z.map .v) parts with | some cs => K (.agg cs) | none => False) := by
  unfold opBuild
  apply propext
  constructor
  · rintro ⟨k', n', z', hl, hh⟩
    rw [h] at hl; cases hl
    obtain ⟨cs, h1, h2⟩ := hh
    rw [h1]; exact h2
  · intro hh
    refine ⟨_, n, z, h, ?_⟩
    split at hh
    · rename_i cs h1
      exact ⟨cs, h1, hh⟩
    · exact hh.elim

theorem opBuildSlice_eq {e b : Nat} {ez : List Value} (h : lay P t = some (.sl e b ez, n, z)) (len : Nat) (parts : List (Nat × M)) (K : M → Tbl → Prop) :
    opBuildSlice P T t len parts K = (len * e ≤ 2 ^ 24 ∧ len ≤ 9223372036854775807 ∧ ez.length = e ∧ (match fillM T (fun i => some (i * e, e)) (zeros len ez) parts with
      | some cs => cs.length = len * e ∧ K (.sr T.length 0 len e) (T ++ [.cells true cs])
      | none => False)) := by
  unfold opBuildSlice
  apply propext
  constructor
  · rintro ⟨e', b', ez', n', z', hl, h1, h2, h3, cs, h4, h5⟩
    rw [h] at hl; cases hl
    exact ⟨h1, h2, h3, by rw [h4]; exact h5⟩
  · rintro ⟨h1, h2, h3, hh⟩
    refine ⟨e, b, ez, n, z, h, h1, h2, h3, ?_⟩
    split at hh
    · rename_i cs h4
      exact ⟨cs, h4, hh⟩
    · exact hh.elim

theorem argEnv_get (args : List M) (k : Nat) : argEnv args k = args.getD k .any := rfl
theorem opLen_sl {ts : Array TypeId} {el : TypeId} (h : (ts[0]?).bind P.underlying = some (.slice el)) (m : M) (K : M → Prop) :
    opLen P T ts m K = (oneCell T m = true ∧ (match m with | .v (.string _) => False | _ => True) ∧ (match lenM m with | some n => K (.v (.int .i64 (n : Int))) | none => False)) := by
  unfold opLen
  cases h0 : ts[0]? with
  | none => rw [h0] at h; cases h
  | some t =>
    rw [h0] at h
    simp only [Option.bind_some] at h
    simp only [h]
    apply propext
    constructor
    · rintro ⟨h1, h2, n, h3, h4⟩
      exact ⟨h1, h2, by rw [h3]; exact h4⟩
    · rintro ⟨h1, h2, h3⟩
      refine ⟨h1, h2, ?_⟩
      split at h3
      · rename_i n hn
        exact ⟨n, hn, h3⟩
      · exact h3.elim
end
end Go.Tl
