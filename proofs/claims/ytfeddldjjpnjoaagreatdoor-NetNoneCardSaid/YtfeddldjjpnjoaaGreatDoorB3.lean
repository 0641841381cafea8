/- More operations that leave memory as it is: slices of slices, strings of bytes, built values. -/
import Derived.Test.YtfeddldjjpnjoaaGreatDoorB2
import Derived.Laws.StructEq
namespace Go.Wg
variable {P : Program} {ρ : Rho} {g : Get} {w : World}

/-- A bound that is given, or not. -/
def bnd (x : Option V) (d : Nat) : Option Nat :=
  match x with
  | none => some d
  | some (.i _ n) => match decide (0 ≤ n) with
    | true => some n.toNat
    | false => none
  | some _ => none

def RelO (ρ : Rho) : Option V → Option Value → Prop
  | none, Y => Y = none
  | some v, Y => ∃ y, Y = some y ∧ Rel ρ v y

/-- What is sliced from where to where. -/
def bnds (lo hi mx : Option V) (len : Nat) (ok : Nat → Bool) (cap : Option Nat) : Option (Nat × Nat × Option Nat) :=
  match mx with
  | none => match bnd hi len, bnd lo 0 with
    | some h, some l => match ok h, Nat.ble l h with
      | true, true => some (l, h, cap)
      | _, _ => none
    | _, _ => none
  | some _ => match hi with
    | none => none
    | some _ => match bnd mx 0, bnd hi len, bnd lo 0 with
      | some m, some h, some l => match ok m, Nat.ble h m, Nat.ble l h with
        | true, true, true => some (l, h, some m)
        | _, _, _ => none
      | _, _, _ => none

theorem bnd_none {d n : Nat} (h : bnd none d = some n) : d = n := by simpa [bnd] using h

theorem run_bnd {x : V} {X : Value} (hx : Rel ρ x X) {d n : Nat} (h : bnd (some x) d = some n) {y : Nat} (hy : n ≤ y) (code : BoundsCode) (w : World) :
    (Instr.sliceBound X y code).run P w = .ok n w := by
  cases x <;> simp only [bnd] at h <;> (try (cases h; done))
  split at h
  · rename_i h0
    cases h
    have h0' := of_decide_eq_true h0
    simp only [Rel] at hx; subst hx
    have : ∀ (k : IntKind) (n : Int), 0 ≤ n → n.toNat ≤ y → (Instr.sliceBound (.int k n) y code).run P w = .ok n.toNat w := by
      intro k n h1 h2
      have h3 : n ≤ y := by omega
      simp [Instr.sliceBound, asIntOf_int, h1, h3]
    exact this _ _ h0' hy
  · cases h

theorem run_bnds {lo hi mx : Option V} {Lo Hi Mx : Option Value} (hlo : RelO ρ lo Lo) (hhi : RelO ρ hi Hi) (hmx : RelO ρ mx Mx) {len : Nat} {ok : Nat → Bool} {cap : Option Nat} {l h : Nat} {m : Option Nat}
    (hb : bnds lo hi mx len ok cap = some (l, h, m)) (isSlice : Bool) (c : Nat) (hc : ∀ k, ok k = true → k ≤ c) (w : World) :
    ∃ m', (Instr.sliceBounds isSlice len c Lo Hi Mx).run P w = .ok (l, h, m') w ∧ l ≤ h ∧ h ≤ m' ∧ m' ≤ c ∧ ((mx = none ∧ m = cap ∧ m' = c) ∨ m = some m') := by
  cases mx with
  | none =>
    simp only [RelO] at hmx; subst hmx
    simp only [bnds] at hb
    split at hb
    · rename_i h' l' h1 h2
      split at hb
      · rename_i h3 h4
        cases hb
        have h4' := Nat.le_of_ble_eq_true h4
        have h3' := hc _ h3
        refine ⟨c, ?_, h4', h3', Nat.le_refl _, .inl ⟨rfl, rfl, rfl⟩⟩
        cases hi with
        | none =>
          simp only [RelO] at hhi; subst hhi
          have := bnd_none h1; subst this
          cases lo with
          | none =>
            simp only [RelO] at hlo; subst hlo
            have := bnd_none h2; subst this
            simp [Instr.sliceBounds]
          | some lo =>
            simp only [RelO] at hlo; obtain ⟨y, rfl, hr⟩ := hlo
            simp [Instr.sliceBounds, run_bnd hr h2 h4']
        | some hi =>
          simp only [RelO] at hhi; obtain ⟨y, rfl, hr⟩ := hhi
          cases lo with
          | none =>
            simp only [RelO] at hlo; subst hlo
            have := bnd_none h2; subst this
            simp [Instr.sliceBounds, run_bnd hr h1 h3']
          | some lo =>
            simp only [RelO] at hlo; obtain ⟨z, rfl, hr2⟩ := hlo
            simp [Instr.sliceBounds, run_bnd hr h1 h3', run_bnd hr2 h2 h4']
      · cases hb
    · cases hb
  | some mx =>
    simp only [RelO] at hmx; obtain ⟨x, rfl, hr0⟩ := hmx
    cases hi with
    | none => simp [bnds] at hb
    | some hi =>
      simp only [RelO] at hhi; obtain ⟨y, rfl, hr⟩ := hhi
      simp only [bnds] at hb
      split at hb
      · rename_i m'' h' l' h0 h1 h2
        split at hb
        · rename_i h3 h4 h5
          cases hb
          have h4' := Nat.le_of_ble_eq_true h4
          have h5' := Nat.le_of_ble_eq_true h5
          have h3' := hc _ h3
          refine ⟨_, ?_, h5', h4', h3', .inr rfl⟩
          cases lo with
          | none =>
            simp only [RelO] at hlo; subst hlo
            have := bnd_none h2; subst this
            simp [Instr.sliceBounds, run_bnd hr h1 h4', run_bnd hr0 h0 h3']
          | some lo =>
            simp only [RelO] at hlo; obtain ⟨z, rfl, hr2⟩ := hlo
            simp [Instr.sliceBounds, run_bnd hr h1 h4', run_bnd hr2 h2 h5', run_bnd hr0 h0 h3']
        · cases hb
      · cases hb

/-- A string's part. -/
def vsls (x : V) (lo hi : Option V) : Option V :=
  match x with
  | .s s => match bnds lo hi none s.size (fun k => Nat.ble k s.size) none with
    | some (l, h, _) => some (.s (s.extract l h))
    | none => none
  | _ => none

theorem vsls_ok {x v : V} {X : Value} {lo hi : Option V} {Lo Hi : Option Value} (hx : Rel ρ x X) (hlo : RelO ρ lo Lo) (hhi : RelO ρ hi Hi) (h : vsls x lo hi = some v) {t : TypeId} (ht : P.underlying t = some .string) :
    ∃ y, Ok P (Instr.sliceAt t X Lo Hi none) w y ∧ Rel ρ v y := by
  cases x <;> simp only [vsls] at h <;> (try (cases h; done))
  split at h
  · rename_i l h' m hb
    cases h
    simp only [Rel] at hx; subst hx
    obtain ⟨m', hr, _⟩ := run_bnds (P := P) hlo hhi (show RelO ρ none none from rfl) hb false _ (fun k hk => Nat.le_of_ble_eq_true hk) w
    exact ⟨_, by simp [Ok, Instr.sliceAt, run_und ht, Instr.slice, hr]; rfl, by simp [Rel]⟩
  · cases h

/-- Is there room for so many elements, surely? -/
def capOk (g : Get) (o off len : Nat) (cap : Option Nat) (esz k : Nat) : Bool :=
  match Nat.ble k len with
  | true => true
  | false => match cap with
    | some c => Nat.ble k c
    | none => match g o with
      | some (.row cells _ _ _) => Nat.ble (off + k * esz) cells.length
      | _ => false

theorem capOk_le (hs : Sat ρ g w) {o off len esz k c : Nat} {cap : Option Nat} {L : Loc} (hL : ρ o = some L) (h0 : 0 < esz) (hl : len ≤ c) (hc : SlRel L off esz c cap) (h : capOk g o off len cap esz k = true) : k ≤ c := by
  unfold capOk at h
  split at h
  · rename_i hk; exact Nat.le_trans (Nat.le_of_ble_eq_true hk) hl
  · cases cap with
    | some c' => simp only [SlRel] at hc; have := Nat.le_of_ble_eq_true h; omega
    | none =>
      simp only at h
      split at h
      · rename_i cells sk pa ve hg
        have hk := Nat.le_of_ble_eq_true h
        obtain ⟨L', hL', hr⟩ := hs.obj o _ hg
        rw [hL] at hL'; cases hL'
        obtain ⟨_, _, _, _, _, h4, _⟩ := hr
        simp only [SlRel] at hc
        have : k * esz ≤ c * esz := by omega
        exact Nat.le_of_mul_le_mul_right this h0
      · cases h

/-- A slice's part. -/
def vsl (g : Get) (x : V) (lo hi mx : Option V) : Option V :=
  match x with
  | .nilsl => match bnds lo hi mx 0 (fun k => Nat.beq k 0) (some 0) with
    | some (_, _, _) => some .nilsl
    | none => none
  | .esl o off esz => match mx with
    | none => match bnds lo hi none 0 (fun k => Nat.beq k 0) none with
      | some (_, _, _) => some (.esl o off esz)
      | none => none
    | some _ => none
  | .sl o off len cap esz => match bnds lo hi mx len (capOk g o off len cap esz) cap with
    | some (l, h, m) => match m with
      | some m => match Nat.beq m l with
        | true => some (.sl o off (h - l) (some (m - l)) esz)
        | false => some (.sl o (off + l * esz) (h - l) (some (m - l)) esz)
      | none => match l with
        | 0 => some (.sl o off h none esz)
        | l + 1 => match Nat.ble (l + 2) h || capOk g o off len cap esz (l + 2) with
          | true => some (.sl o (off + (l + 1) * esz) (h - (l + 1)) none esz)
          | false => match Nat.beq h (l + 1) with
            | true => some (.esl o (off + (l + 1) * esz) esz)
            | false => none
    | none => none
  | _ => none

theorem vsl_ok (hs : Sat ρ g w) {x v : V} {X : Value} {lo hi mx : Option V} {Lo Hi Mx : Option Value} (hx : Rel ρ x X) (hlo : RelO ρ lo Lo) (hhi : RelO ρ hi Hi) (hmx : RelO ρ mx Mx) (h : vsl g x lo hi mx = some v)
    {t e : TypeId} {esz : Nat} (ht : P.underlying t = some (.slice e)) (hz : sizeT P e = some esz) (hesz : ∀ o off len cap z, x = .sl o off len cap z → z = esz) :
    ∃ y, Ok P (Instr.sliceAt t X Lo Hi Mx) w y ∧ Rel ρ v y := by
  cases x <;> simp only [vsl] at h <;> (try (cases h; done))
  case nilsl =>
    split at h
    · rename_i l h' m hb
      cases h
      simp only [Rel] at hx; subst hx
      obtain ⟨m', hr, h1, h2, h3, _⟩ := run_bnds (P := P) hlo hhi hmx hb true 0 (fun k hk => by have := Nat.eq_of_beq_eq_true hk; omega) w
      have : m' = 0 := by omega
      subst this
      have : l = 0 := by omega
      subst this
      have : h' = 0 := by omega
      subst this
      exact ⟨_, by simp [Ok, Instr.sliceAt, run_und ht, Instr.slice, hr, run_sizeT hz]; rfl, by simp [Rel]⟩
    · cases h
  case esl o off z =>
    cases mx with
    | some mx => simp at h
    | none =>
      simp only at h
      split at h
      · rename_i l h' m hb
        cases h
        simp only [Rel] at hx
        obtain ⟨L, c, a, hL, rfl, hz0, hsr, ha⟩ := hx
        obtain ⟨m', hr, h1, h2, h3, h4⟩ := run_bnds (P := P) hlo hhi hmx hb true c (fun k hk => by have := Nat.eq_of_beq_eq_true hk; omega) w
        have h0 : h' = 0 := by
          unfold bnds at hb
          simp only at hb
          split at hb
          · split at hb
            · rename_i hh _ _ _ hk _; cases hb; exact Nat.eq_of_beq_eq_true hk
            · cases hb
          · cases hb
        subst h0
        have : l = 0 := by omega
        subst this
        have hm : m' = c := by
          rcases h4 with ⟨_, _, h5⟩ | h5
          · exact h5
          · exfalso
            subst h5
            unfold bnds at hb
            simp only at hb
            split at hb
            · split at hb
              · cases hb
              · cases hb
            · cases hb
        subst hm
        refine ⟨.slice (some a) 0 m', ?_, by simp only [Rel]; exact ⟨L, m', a, hL, rfl, hz0, hsr, ha⟩⟩
        simp [Ok, Instr.sliceAt, run_und ht, Instr.slice, hr, run_sizeT hz]
        simp [Addr.add]
      · cases h
  case sl o off len cap z =>
    have := hesz _ _ _ _ _ rfl
    subst this
    split at h
    · rename_i l h' m hb
      simp only [Rel] at hx
      obtain ⟨L, c, hL, rfl, h0, hlc, hsr⟩ := hx
      obtain ⟨m', hr, h1, h2, h3, h4⟩ := run_bnds (P := P) hlo hhi hmx hb true c (fun k hk => capOk_le hs hL h0 hlc hsr hk) w
      have hmul : ∀ l, l ≤ c → off + l * z + (c - l) * z = off + c * z := by
        intro l hl
        rw [Nat.add_assoc, ← Nat.add_mul, Nat.add_sub_cancel' hl]
      have hsz : off + c * z ≤ L.size := by cases cap <;> simp only [SlRel] at hsr <;> omega
      have fin : ∀ v' : V, (∃ y, y = Value.slice (if m' = l then some ⟨L.blk, L.base + off, none⟩ else some ⟨L.blk, L.base + (off + l * z), none⟩) (h' - l) (m' - l) ∧ Rel ρ v' y) →
          ∃ y, Ok P (Instr.sliceAt t (.slice (some ⟨L.blk, L.base + off, none⟩) len c) Lo Hi Mx) w y ∧ Rel ρ v' y := by
        rintro v' ⟨y, rfl, hy⟩
        refine ⟨_, ?_, hy⟩
        simp [Ok, Instr.sliceAt, run_und ht, Instr.slice, hr, run_sizeT hz, add_lit, Nat.add_assoc]
      cases m with
      | some m =>
        have hm : m = m' := by
          rcases h4 with ⟨rfl, h5, h6⟩ | h5
          · subst h5; simp only [SlRel] at hsr; omega
          · cases h5; rfl
        subst hm
        simp only at h
        split at h
        · rename_i hml
          cases h
          have hml' := Nat.eq_of_beq_eq_true hml
          refine fin _ ⟨_, rfl, ?_⟩
          simp only [hml', if_true, Rel]
          exact ⟨L, l - l, hL, rfl, h0, by omega, by simp only [SlRel]; refine ⟨trivial, ?_⟩; have := Nat.le_add_right off (c * z); simp; omega⟩
        · rename_i hml
          cases h
          have hml' : ¬ m = l := fun e => by subst e; simp at hml
          refine fin _ ⟨_, rfl, ?_⟩
          simp only [hml', if_false, Rel]
          refine ⟨L, m - l, hL, rfl, h0, by omega, ?_⟩
          simp only [SlRel]
          refine ⟨trivial, ?_⟩
          have e1 := hmul l (by omega)
          have e2 : (m - l) * z ≤ (c - l) * z := Nat.mul_le_mul_right _ (by omega)
          omega
      | none =>
        obtain ⟨rfl, rfl, rfl⟩ : mx = none ∧ none = cap ∧ m' = c := by
          rcases h4 with h5 | h5
          · exact h5
          · cases h5
        simp only [SlRel] at hsr
        cases l with
        | zero =>
          simp only at h
          cases h
          refine fin _ ⟨_, rfl, ?_⟩
          have : (if m' = 0 then some (⟨L.blk, L.base + off, none⟩ : Addr) else some ⟨L.blk, L.base + (off + 0 * z), none⟩) = some ⟨L.blk, L.base + off, none⟩ := by split <;> simp
          rw [this]
          simp only [Rel]
          exact ⟨L, m', hL, rfl, h0, by omega, by simpa only [SlRel] using hsr⟩
        | succ l =>
          simp only at h
          split at h
          · rename_i hdef
            cases h
            have hlt : l + 2 ≤ m' := by
              rcases Bool.or_eq_true _ _ ▸ hdef with h5 | h5
              · have := Nat.le_of_ble_eq_true h5; omega
              · exact capOk_le hs hL h0 hlc (show SlRel L off z m' none from hsr) h5
            refine fin _ ⟨_, rfl, ?_⟩
            have hne : ¬ m' = l + 1 := by omega
            simp only [hne, if_false, Rel]
            refine ⟨L, m' - (l + 1), hL, rfl, h0, by omega, ?_⟩
            simp only [SlRel]
            have e1 := hmul (l + 1) (by omega)
            omega
          · split at h
            · rename_i heq
              cases h
              have heq' := Nat.eq_of_beq_eq_true heq
              subst heq'
              refine fin _ ⟨_, rfl, ?_⟩
              simp only [Nat.sub_self, Rel]
              have e1 := hmul (l + 1) (by omega)
              split
              · rename_i e
                exact ⟨L, m' - (l + 1), _, hL, rfl, h0, by omega, fun h => by omega⟩
              · exact ⟨L, m' - (l + 1), _, hL, rfl, h0, by omega, fun _ => rfl⟩
            · cases h
    · cases h

/-- A part of an array behind a pointer. -/
def vsla (n esz : Nat) (g : Get) (x : V) (lo hi mx : Option V) : Option V :=
  match x with
  | .p o off => match g o with
    | some (.row cells _ _ _) => match Nat.ble (off + n * esz) cells.length with
      | true => match bnds lo hi mx n (fun k => Nat.ble k n) (some n) with
        | some (l, h, some m) => match Nat.beq m l with
          | true => some (.sl o off (h - l) (some (m - l)) esz)
          | false => some (.sl o (off + l * esz) (h - l) (some (m - l)) esz)
        | _ => none
      | false => none
    | _ => none
  | _ => none

theorem vsla_ok (hs : Sat ρ g w) {n esz : Nat} {x v : V} {X : Value} {lo hi mx : Option V} {Lo Hi Mx : Option Value} (hx : Rel ρ x X) (hlo : RelO ρ lo Lo) (hhi : RelO ρ hi Hi) (hmx : RelO ρ mx Mx)
    (h : vsla n esz g x lo hi mx = some v) {t e : TypeId} (h0 : 0 < esz) (hz : sizeT P e = some esz)
    (ht : P.underlying t = some (.array n e) ∨ ∃ a, P.underlying t = some (.pointer a) ∧ P.underlying a = some (.array n e)) :
    ∃ y, Ok P (Instr.sliceAt t X Lo Hi Mx) w y ∧ Rel ρ v y := by
  cases x <;> simp only [vsla] at h <;> (try (cases h; done))
  rename_i o off
  simp only [Rel] at hx
  obtain ⟨L, hL, rfl⟩ := hx
  split at h
  · rename_i cells sk pa ve hg
    split at h
    · rename_i hle
      have hle' := Nat.le_of_ble_eq_true hle
      obtain ⟨L', hL', hr⟩ := hs.obj o _ hg
      rw [hL] at hL'; cases hL'
      obtain ⟨_, _, _, _, _, h4, _⟩ := hr
      split at h
      · rename_i l h' m hb
        obtain ⟨m', hr, h1, h2, h3, h5⟩ := run_bnds (P := P) hlo hhi hmx hb false n (fun k hk => Nat.le_of_ble_eq_true hk) w
        have hm : m = m' := by
          rcases h5 with ⟨_, h6, h7⟩ | h6
          · cases h6; exact h7.symm
          · cases h6; rfl
        subst hm
        have fin : ∀ v' : V, (∃ y, y = Value.slice (some (if m = l then ⟨L.blk, L.base + off, none⟩ else ⟨L.blk, L.base + (off + l * esz), none⟩)) (h' - l) (m - l) ∧ Rel ρ v' y) →
            ∃ y, Ok P (Instr.sliceAt t (.pointer (some ⟨L.blk, L.base + off, none⟩)) Lo Hi Mx) w y ∧ Rel ρ v' y := by
          rintro v' ⟨y, rfl, hy⟩
          refine ⟨_, ?_, hy⟩
          rcases ht with ht | ⟨a, ht, ha⟩
          · simp [Ok, Instr.sliceAt, run_und ht, Instr.sureAddr, hr, run_sizeT hz, add_lit, Nat.add_assoc]
          · simp [Ok, Instr.sliceAt, run_und ht, run_und ha, Instr.slice, asAddr, hr, run_sizeT hz, add_lit, Nat.add_assoc]
        have e2 : (m - l) * esz ≤ n * esz := Nat.mul_le_mul_right _ (by omega)
        have e3 : l * esz + (m - l) * esz ≤ n * esz := by rw [← Nat.add_mul]; exact Nat.mul_le_mul_right _ (by omega)
        split at h
        · rename_i hml
          cases h
          have hml' := Nat.eq_of_beq_eq_true hml
          refine fin _ ⟨_, rfl, ?_⟩
          simp only [hml', if_true, Rel]
          exact ⟨L, l - l, hL, rfl, h0, by omega, by simp only [SlRel]; refine ⟨trivial, ?_⟩; simp; omega⟩
        · rename_i hml
          cases h
          have hml' : ¬ m = l := fun e => by subst e; simp at hml
          refine fin _ ⟨_, rfl, ?_⟩
          simp only [hml', if_false, Rel]
          exact ⟨L, m - l, hL, rfl, h0, by omega, by simp only [SlRel]; exact ⟨trivial, by omega⟩⟩
      · cases h
    · cases h
  · cases h

end Go.Wg
