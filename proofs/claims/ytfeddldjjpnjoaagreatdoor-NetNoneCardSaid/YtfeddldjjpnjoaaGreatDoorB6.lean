/- Look-ups in maps whose keys are whole numbers or strings. -/
import Derived.Test.YtfeddldjjpnjoaaGreatDoorB5
namespace Go.Wg
variable {P : Program} {ρ : Rho} {g : Get} {w : World}

/-- Are two keys one? -/
def keq (x y : V) : Option Bool :=
  match x with
  | .i k a => match y with
    | .i k' b => match decide (k = k') with
      | true => some (decide (a = b))
      | false => none
    | _ => none
  | .s a => match y with
    | .s b => some (a == b)
    | _ => none
  | _ => none

/-- Where a key stands. -/
def kfind (x : V) : List (V × V) → Nat → Option (Option (Nat × V))
  | [], _ => some none
  | e :: es, i => match keq x e.1 with
    | some true => some (some (i, e.2))
    | some false => kfind x es (i + 1)
    | none => none

inductive KK where
  | int | str
  deriving DecidableEq

def kkT (P : Program) (k : KK) (t : TypeId) : Prop :=
  match k with
  | .int => ∃ i, P.underlying t = some (.int i)
  | .str => P.underlying t = some .string

def kkV (k : KK) (x : V) : Bool :=
  match k, x with
  | .int, .i _ _ => true
  | .str, .s _ => true
  | _, _ => false

theorem keq_ok {k : KK} {x y : V} {X Y : Value} {r : Bool} (hx : Rel ρ x X) (hy : Rel ρ y Y) (h : keq x y = some r) (hk : kkV k x = true) {d : TypeDesc} {t : TypeId} (ht : kkT P k t) (hd : P.underlying t = some d) :
    Instr.sameNow d X Y = some r := by
  cases x <;> simp only [keq] at h <;> (try (cases h; done)) <;> cases y <;> simp only at h <;> (try (cases h; done))
  · split at h
    · rename_i hkk
      cases h
      have := of_decide_eq_true hkk; subst this
      simp only [Rel] at hx hy; subst hx; subst hy
      cases k <;> simp [kkV] at hk
      obtain ⟨i, hi⟩ := ht
      rw [hi] at hd; cases hd
      simp [Instr.sameNow]; rfl
    · cases h
  · cases h
    simp only [Rel] at hx hy; subst hx; subst hy
    cases k <;> simp [kkV] at hk
    simp only [kkT] at ht
    rw [ht] at hd; cases hd
    rfl

theorem kfind_ok {k : KK} {x : V} {X : Value} (hx : Rel ρ x X) (hk : kkV k x = true) {d : TypeDesc} {t : TypeId} (ht : kkT P k t) (hd : P.underlying t = some d) :
    ∀ (ents : List (V × V)) (es : List MapEntry) (i : Nat) (r : Option (Nat × V)), es.length = ents.length → (∀ (j : Nat) (e : V × V), ents[j]? = some e → ∃ x, es[j]? = some x ∧ EntRel ρ e x) → kfind x ents i = some r →
      (r = none ∧ Instr.findNow d X es i = some none) ∨ (∃ n v y, r = some (n, v) ∧ Instr.findNow d X es i = some (some (n, y)) ∧ Rel ρ v y ∧ i ≤ n ∧ n < i + ents.length ∧ ∃ kv, ents[n - i]? = some (kv, v) ∧ keq x kv = some true)
  | [], es, i, r, hl, _, h => by
    simp only [kfind] at h; cases h
    have : es = [] := by simpa using hl
    subst this
    exact .inl ⟨rfl, rfl⟩
  | e :: ents, es, i, r, hl, hr, h => by
    cases es with
    | nil => simp at hl
    | cons y es =>
      obtain ⟨y', hy', her⟩ := hr 0 e (by simp)
      simp at hy'; subst hy'
      simp only [kfind] at h
      split at h
      · rename_i hq
        cases h
        have := keq_ok (P := P) hx her.1 hq hk ht hd
        refine .inr ⟨i, e.2, y.val, rfl, by simp [Instr.findNow, this], her.2, Nat.le_refl _, by simp, e.1, by simp, hq⟩
      · rename_i hq
        have := keq_ok (P := P) hx her.1 hq hk ht hd
        rcases kfind_ok hx hk ht hd ents es (i + 1) r (by simpa using hl) (fun j e he => by simpa using hr (j + 1) e (by simpa using he)) h with ⟨h1, h2⟩ | ⟨n, v, y, h1, h2, h3, h4, h5, kv, h6, h7⟩
        · exact .inl ⟨h1, by simp [Instr.findNow, this, h2]⟩
        · refine .inr ⟨n, v, y, h1, by simp [Instr.findNow, this, h2], h3, by omega, by simp; omega, kv, ?_, h7⟩
          obtain ⟨m, rfl⟩ : ∃ m, n = i + 1 + m := ⟨n - (i + 1), by omega⟩
          rw [show i + 1 + m - i = m + 1 by omega]
          rw [show i + 1 + m - (i + 1) = m by omega] at h6
          simpa using h6
      · cases h

theorem run_checkKey {k : KK} {x : V} {X : Value} (hx : Rel ρ x X) (hk : kkV k x = true) {t : TypeId} (ht : kkT P k t) (empty : Bool) (w : World) : (Instr.checkKey empty 10000 t X).run P w = .ok () w := by
  rw [show (10000 : Nat) = 9999 + 1 from rfl, Instr.checkKey]
  cases k with
  | int =>
    cases x <;> simp [kkV] at hk
    obtain ⟨i, hi⟩ := ht
    simp only [Rel] at hx; subst hx
    simp [run_und hi]
  | str =>
    cases x <;> simp [kkV] at hk
    simp only [kkT] at ht
    simp only [Rel] at hx; subst hx
    simp [run_und ht]

def pairV (ok : Bool) (v : V) (f : Bool) : V := match ok with
  | true => .tup [v, .b f]
  | false => v

/-- A look-up. -/
def vlk (g : Get) (k : KK) (zero : V) (ok : Bool) (x ix : V) : Option V :=
  match kkV k ix with
  | false => none
  | true =>
    match (match x with
      | .nilm => some none
      | .m o => match g o with
        | some (.map es _) => kfind ix es 0
        | _ => none
      | _ => none) with
    | none => none
    | some none => some (pairV ok zero false)
    | some (some (_, v)) => some (pairV ok v true)

theorem vlk_ok (hs : Sat ρ g w) {k : KK} {zero x ix v : V} {ok : Bool} {X Y : Value} (hx : Rel ρ x X) (hy : Rel ρ ix Y) (h : vlk g k zero ok x ix = some v) {t kt et : TypeId} {z : Value} (ht : P.underlying t = some (.map kt et))
    (hk : kkT P k kt) (hz : zeroT P et = some z) (hzr : Rel ρ zero z) : ∃ y, Ok P (Instr.lookup t X Y ok) w y ∧ Rel ρ v y := by
  unfold vlk at h
  split at h
  · cases h
  · rename_i hkv
    obtain ⟨d, hd⟩ : ∃ d, P.underlying kt = some d := by
      cases k with
      | int => obtain ⟨i, hi⟩ := hk; exact ⟨_, hi⟩
      | str => exact ⟨_, hk⟩
    have tail : ∀ (v : V) (y : Value) (f : Bool), Rel ρ v y → Rel ρ (pairV ok v f) (if ok then .tuple #[y, .bool f] else y) := by
      intro v y f hr
      cases ok
      · exact hr
      · simp only [pairV, Rel, if_true]
        refine ⟨[y, .bool f], ?_, rfl⟩
        simp only [RelL]
        exact ⟨y, [.bool f], hr, ⟨.bool f, [], by simp [Rel], rfl, rfl⟩, rfl⟩
    cases x with
    | nilm =>
      simp only at h
      cases h
      simp only [Rel] at hx; subst hx
      refine ⟨_, ?_, tail zero z false hzr⟩
      simp [Ok, Instr.lookup, run_und ht, run_checkKey hy hkv hk, Instr.findKey, run_und hd, Instr.findNow, run_zeroT hz]
    | m o =>
      simp only at h
      obtain ⟨L, hL, rfl⟩ := (show ∃ L, ρ o = some L ∧ X = .map (some L.blk) by simpa only [Rel] using hx)
      cases hg : g o with
      | none => simp [hg] at h
      | some ob =>
        cases ob with
        | row => simp [hg] at h
        | loop => simp [hg] at h
        | map es ve =>
          simp only [hg] at h
          obtain ⟨L', hL', hr⟩ := hs.obj o _ hg
          rw [hL] at hL'; cases hL'
          obtain ⟨es', clock, h1, h2, h3⟩ := hr
          cases hf : kfind ix es 0 with
          | none => simp [hf] at h
          | some r =>
            simp only [hf] at h
            have hkf := kfind_ok (P := P) hy hkv hk hd es es'.toList 0 r (by simpa using h2) (fun j e he => by simpa using h3 j e he) hf
            have hgo : (getObj L.blk).run P w = .ok (.map es' clock) w := by simp [getObj, Sem.run, h1]
            rcases hkf with ⟨rfl, hn⟩ | ⟨n, u, y, rfl, hn, hu, _⟩
            · cases h
              refine ⟨_, ?_, tail zero z false hzr⟩
              simp [Ok, Instr.lookup, run_und ht, run_checkKey hy hkv hk, Instr.findKey, run_und hd, hgo, hn, run_zeroT hz]
            · cases h
              refine ⟨_, ?_, tail u y true hu⟩
              simp [Ok, Instr.lookup, run_und ht, run_checkKey hy hkv hk, Instr.findKey, run_und hd, hgo, hn]
    | _ => simp at h

end Go.Wg
