/- The small machine for the kernel: what one operation looks into, and a list of operations; no statement of the set is proved here. -/
import Derived.Test.YtfeddldjjpnjoaaGreatDoorK5
namespace Go.Wg

section
variable {e : Env} {g : Get}
theorem one_ld1 (v : V) : vld1 (one g (objOf (some v))) v = vld1 g v := by
  cases v <;> first | rfl | simp only [vld1, objOf, one_self]
theorem one_ldn (n : Nat) (v : V) : vldn n (one g (objOf (some v))) v = vldn n g v := by
  cases v <;> first | rfl | simp only [vldn, objOf, one_self]
theorem one_cbs (v : V) : vcbs (one g (objOf (some v))) v = vcbs g v := by
  cases v <;> first | rfl | simp only [vcbs, objOf, one_self]
theorem one_capOk (o off len : Nat) (cap : Option Nat) (z : Nat) : capOk (one g (some o)) o off len cap z = capOk g o off len cap z := by
  funext n
  unfold capOk
  simp only [one_self]
theorem one_vsl (v : V) (a b c : Option V) : vsl (one g (objOf (some v))) v a b c = vsl g v a b c := by
  cases v <;> first | rfl | simp only [vsl, objOf, one_capOk]
theorem one_vslz (z : Nat) (v : V) (a b c : Option V) : vslz z (one g (objOf (some v))) v a b c = vslz z g v a b c := by
  unfold vslz
  cases v with
  | sl o off len cap w => dsimp only; rw [one_vsl (.sl o off len cap w)]
  | _ => exact one_vsl _ a b c
theorem one_vsla (n z : Nat) (v : V) (a b c : Option V) : vsla n z (one g (objOf (some v))) v a b c = vsla n z g v a b c := by
  cases v <;> first | rfl | simp only [vsla, objOf, one_self]
theorem one_vlk (k : KK) (z : V) (ok : Bool) (v i : V) : vlk (one g (objOf (some v))) k z ok v i = vlk g k z ok v i := by
  cases v <;> first | rfl | simp only [vlk, objOf, one_self]
theorem one_lenm (v : V) : vlenm (one g (objOf (some v))) v = vlenm g v := by
  cases v <;> first | rfl | simp only [vlenm, objOf, one_self]
theorem one_cap (v : V) : vcap (one g (objOf (some v))) v = vcap g v := by
  cases v <;> first | rfl | simp only [vcap, objOf, one_self]
theorem evQ_one (q : Q) : evQ e (one g (rdQ e q)) q = evQ e g q := by
  cases q <;> simp only [evQ, ev1, ev2, rdQ]
  case ld1 x => cases e x with
    | none => rfl
    | some v => exact one_ld1 v
  case ldn n x => cases e x with
    | none => rfl
    | some v => exact one_ldn n v
  case cbs x => cases e x with
    | none => rfl
    | some v => exact one_cbs v
  case sl z x a b c => cases e x with
    | none => rfl
    | some v => cases evO e a <;> first | rfl | (cases evO e b <;> first | rfl | (cases evO e c <;> first | rfl | exact one_vslz z v _ _ _))
  case sla n z x a b c => cases e x with
    | none => rfl
    | some v => cases evO e a <;> first | rfl | (cases evO e b <;> first | rfl | (cases evO e c <;> first | rfl | exact one_vsla n z v _ _ _))
  case lk k z ok x i => cases e x with
    | none => rfl
    | some v => cases e i <;> first | rfl | exact one_vlk k z ok v _
  case lenM x => cases e x with
    | none => rfl
    | some v => exact one_lenm v
  case cap x => cases e x with
    | none => rfl
    | some v => exact one_cap v
end

/-- A step of a region whose order is open, where it may read all that it reads. -/
def evD2 (call : CallF) (d : DOp) (T : Tm) (s : St) : Option (V × St × Option Nat) :=
  match want (Tm.opd T) d.e.guard with
  | some true => match d.e.i with
    | .q q => match evQ (Tm.opd T) s.get q with
      | some v => some (v, s, rdQ (Tm.opd T) q)
      | none => none
    | .a a => match s.h.get s.next with
      | none => match evA (Tm.opd T) s a with
        | some (v, s') => some (v, s', none)
        | none => none
      | some _ => none
    | .h h => match evH (Tm.opd T) s h with
      | some (v, s') => some (v, s', none)
      | none => none
    | .call f args => match evCall call (Tm.opd T) s f args with
      | some (v, s') => some (v, s', none)
      | none => none
  | some false => some (.tup [], s, none)
  | none => none
theorem evD2_eq {call : CallF} {d : DOp} {T : Tm} {s : St} (h : covD d = true) : evD1 call d T s = evD2 call d T s := by
  simp only [covD, Bool.and_eq_true] at h
  obtain ⟨h1, h2⟩ := h
  unfold evD1 evD2
  rw [covG_ok h2]
  cases hi : d.e.i with
  | q q =>
    rw [hi] at h1
    have h1 : covQ d.reads q = true := h1
    dsimp only; rw [covQ_rd h1, covQ_ok h1, evQ_one]; rfl
  | a a =>
    rw [hi] at h1
    dsimp only; rw [covA_ok (show covA d.reads a = true from h1)]; rfl
  | h h =>
    rw [hi] at h1
    dsimp only; rw [covH_ok (show covH d.reads h = true from h1)]; rfl
  | call f l =>
    rw [hi] at h1
    simp only [covI, Bool.and_eq_true] at h1
    dsimp only [evCall]
    rw [covO_ok h1.1, covL_ok h1.2]
    rfl

noncomputable section
abbrev KS := V → St → Bool
abbrev CallK := Cal → List V → St → KS → Bool
def CallGot (call : CallF) (callK : CallK) : Prop := ∀ c l s k, callK c l s k = true → ∃ v s', call c l s = some (v, s') ∧ k v s' = true

theorem got2 {α β : Type} {o : Option (α × β)} {k : α → β → Bool} (h : oB2 o k = true) : ∃ a b, o = some (a, b) ∧ k a b = true := by
  cases o with
  | none => cases h
  | some p => exact ⟨p.1, p.2, rfl, h⟩
def appE (l : List V) (r : List V) (k : List V → Bool) : Bool :=
  List.rec (motive := fun _ => (List V → Bool) → Bool) (fun k => k r) (fun a _ ih k => ih fun t => k (a :: t)) l k
theorem appE_eq : ∀ (l r : List V) (k : List V → Bool), appE l r k = k (l ++ r)
  | [], _, _ => rfl
  | a :: l, r, k => appE_eq l r fun t => k (a :: t)
def iCall (f : Opd) (args : List Opd) (call : CallK) (T : Tm) (s : St) (k : KS) : Bool :=
  opE T f fun fv => is_fn fv (fun f caps => opsE T args fun l => appE l caps fun l => call (.f f) l s k) (is_yv fv (fun o => opsE T args fun l => call (.y o) l s k) false)
def iE (i : I) : CallK → Tm → St → KS → Bool :=
  I.rec (motive := fun _ => CallK → Tm → St → KS → Bool) (fun q _ T s k => qE q T s.h fun v => k v s) (fun a _ T s k => aE a T s k) (fun h _ T s k => hE h T s k) iCall i
theorem iE_ok {call : CallF} {callK : CallK} (hc : CallGot call callK) {i : I} {T : Tm} {s : St} {k : KS} (h : iE i callK T s k = true) : ∃ v s', evI call (Tm.opd T) s i = some (v, s') ∧ k v s' = true := by
  cases i with
  | q q =>
    have h : qE q T s.h (fun v => k v s) = true := h
    rw [qE_ok] at h
    obtain ⟨v, h1, h2⟩ := oB_true h
    exact ⟨v, s, by simp only [evI]; rw [show evQ (Tm.opd T) s.get q = some v from h1], h2⟩
  | a a =>
    have h : aE a T s k = true := h
    rw [aE_ok] at h
    exact got2 h
  | h a =>
    have h : hE a T s k = true := h
    exact hE_got a T s k h
  | call f l =>
    have h : iCall f l callK T s k = true := h
    unfold iCall at h
    rw [opE_eq] at h
    obtain ⟨fv, h1, h2⟩ := oB_true h
    simp only [evI, evCall, h1]
    cases fv with
    | fn f caps =>
      have h2 : opsE T l _ = true := h2
      rw [opsE_eq] at h2
      obtain ⟨vs, h3, h4⟩ := oB_true h2
      rw [appE_eq] at h4
      simp only [h3]
      exact hc _ _ _ _ h4
    | yv o =>
      have h2 : opsE T l _ = true := h2
      rw [opsE_eq] at h2
      obtain ⟨vs, h3, h4⟩ := oB_true h2
      simp only [h3]
      exact hc _ _ _ _ h4
    | _ => exact nomatch (show false = true from h2)

def putE (d : Option Nat) (T : Tm) (v : V) (k : Tm → Bool) : Bool :=
  Option.rec (motive := fun _ => Tm → V → (Tm → Bool) → Bool) (fun T _ k => k T) (fun d T v k => setE T d v k) d T v k
theorem putE_eq (d : Option Nat) (T : Tm) (v : V) (k : Tm → Bool) : putE d T v k = k (Tm.put T d v) := by
  cases d with
  | none => rfl
  | some d => exact setE_eq T d v k
def notB (b : Bool) : Bool := Bool.rec (motive := fun _ => Bool) true false b
/-- Is it wanted? -/
def wantE (g : Option (Nat × Bool)) (T : Tm) (run skip : Bool) : Bool :=
  Option.rec (motive := fun _ => Tm → Bool → Bool → Bool) (fun _ run _ => run)
    (fun p T run skip => Prod.rec (motive := fun _ => Bool) (fun d x => opE T (.t d) fun v => is_b v (fun y => bB (bB x y (notB y)) run skip) (is_tup v (fun l => List.rec (motive := fun _ => Bool) skip (fun _ _ _ => false) l) false)) p) g T run skip
theorem wantE_ok {g : Option (Nat × Bool)} {T : Tm} {run skip : Bool} (h : wantE g T run skip = true) : (want (Tm.opd T) g = some true ∧ run = true) ∨ (want (Tm.opd T) g = some false ∧ skip = true) := by
  cases g with
  | none => exact .inl ⟨rfl, h⟩
  | some p =>
    obtain ⟨d, x⟩ := p
    have h : opE T (.t d) (fun v => is_b v (fun y => bB (bB x y (notB y)) run skip) (is_tup v (fun l => List.rec (motive := fun _ => Bool) skip (fun _ _ _ => false) l) false)) = true := h
    rw [opE_eq] at h
    obtain ⟨v, h1, h2⟩ := oB_true h
    simp only [want, h1]
    cases v with
    | b y => cases x <;> cases y <;> first | exact .inl ⟨rfl, h2⟩ | exact .inr ⟨rfl, h2⟩
    | tup l =>
      cases l with
      | nil => exact .inr ⟨rfl, h2⟩
      | cons a r => exact nomatch (show false = true from h2)
    | _ => exact nomatch (show false = true from h2)
def opK (o : OpE) (call : CallK) (T : Tm) (s : St) (k : Tm → St → Bool) : Bool :=
  OpE.rec (motive := fun _ => CallK → Tm → St → (Tm → St → Bool) → Bool) (fun d g i call T s k => wantE g T (iE i call T s fun v s => putE d T v fun T => k T s) (putE d T (.tup []) fun T => k T s)) o call T s k
theorem opK_ok {call : CallF} {callK : CallK} (hc : CallGot call callK) {o : OpE} {T : Tm} {s : St} {k : Tm → St → Bool} (h : opK o callK T s k = true) : ∃ T' s', evOp call o T s = some (T', s') ∧ k T' s' = true := by
  obtain ⟨d, g, i⟩ := o
  have h : wantE g T (iE i callK T s fun v s => putE d T v fun T => k T s) (putE d T (.tup []) fun T => k T s) = true := h
  simp only [evOp]
  rcases wantE_ok h with ⟨h1, h2⟩ | ⟨h1, h2⟩
  · obtain ⟨v, s', h3, h4⟩ := iE_ok hc h2
    rw [putE_eq] at h4
    exact ⟨_, _, by simp only [h1, h3], h4⟩
  · rw [putE_eq] at h2
    exact ⟨_, _, by simp only [h1], h2⟩
def opsK (l : List OpE) : CallK → Tm → St → (Tm → St → Bool) → Bool :=
  List.rec (motive := fun _ => CallK → Tm → St → (Tm → St → Bool) → Bool) (fun _ T s k => k T s) (fun o _ ih call T s k => opK o call T s fun T s => ih call T s k) l
theorem opsK_ok {call : CallF} {callK : CallK} (hc : CallGot call callK) : ∀ {l : List OpE} {T : Tm} {s : St} {k : Tm → St → Bool}, opsK l callK T s k = true → ∃ T' s', evOps call l T s = some (T', s') ∧ k T' s' = true
  | [], T, s, k, h => ⟨T, s, rfl, h⟩
  | o :: l, T, s, k, h => by
    have h : opK o callK T s (fun T s => opsK l callK T s k) = true := h
    obtain ⟨T', s', h1, h2⟩ := opK_ok hc h
    obtain ⟨T2, s2, h3, h4⟩ := opsK_ok hc h2
    exact ⟨T2, s2, by simp only [evOps, h1, h3], h4⟩

/-- What is made must be new. -/
def freshE (i : I) (s : St) (k : Bool) : Bool :=
  I.rec (motive := fun _ => St → Bool → Bool) (fun _ _ k => k) (fun _ s k => Option.rec (motive := fun _ => Bool) k (fun _ => false) (getM s.h s.next)) (fun _ _ k => k) (fun _ _ _ k => k) i s k
def rdI (e : Env) (i : I) : Option Nat := match i with
  | .q q => rdQ e q
  | _ => none
theorem freshE_ok {call : CallF} {callK : CallK} (hc : CallGot call callK) {d : DOp} {T : Tm} {s : St} {k : KS} (hw : want (Tm.opd T) d.e.guard = some true) (h : freshE d.e.i s (iE d.e.i callK T s k) = true) :
    ∃ v s', evD2 call d T s = some (v, s', rdI (Tm.opd T) d.e.i) ∧ k v s' = true := by
  unfold evD2
  rw [hw]
  dsimp only
  cases hi : d.e.i with
  | q q =>
    rw [hi] at h
    obtain ⟨v, s', h1, h2⟩ := iE_ok hc (show iE (.q q) callK T s k = true from h)
    simp only [evI] at h1
    cases hq : evQ (Tm.opd T) s.get q with
    | none => rw [hq] at h1; cases h1
    | some u =>
      rw [hq] at h1; cases h1
      exact ⟨_, _, by simp only [hq, rdI], h2⟩
  | a a =>
    rw [hi] at h
    have h : Option.rec (motive := fun _ => Bool) (iE (.a a) callK T s k) (fun _ => false) (getM s.h s.next) = true := h
    rw [getM_eq] at h
    cases hg : s.h.get s.next with
    | some ob => rw [hg] at h; exact nomatch (show false = true from h)
    | none =>
      rw [hg] at h
      obtain ⟨v, s', h1, h2⟩ := iE_ok hc (show iE (.a a) callK T s k = true from h)
      simp only [evI] at h1
      exact ⟨v, s', by simp only [h1, rdI], h2⟩
  | h a =>
    rw [hi] at h
    obtain ⟨v, s', h1, h2⟩ := iE_ok hc (show iE (.h a) callK T s k = true from h)
    simp only [evI] at h1
    exact ⟨v, s', by simp only [h1, rdI], h2⟩
  | call f l =>
    rw [hi] at h
    obtain ⟨v, s', h1, h2⟩ := iE_ok hc (show iE (.call f l) callK T s k = true from h)
    simp only [evI] at h1
    exact ⟨v, s', by simp only [h1, rdI], h2⟩
/-- A region where nothing is to be held against anything. -/
def opD (d : DOp) (call : CallK) (T : Tm) (s : St) (k : Tm → St → Bool) : Bool :=
  wantE d.e.guard T (freshE d.e.i s (iE d.e.i call T s fun v s => putE d.e.dst T v fun T => k T s)) (putE d.e.dst T (.tup []) fun T => k T s)
def dsK (l : List DOp) : CallK → Tm → St → (Tm → St → Bool) → Bool :=
  List.rec (motive := fun _ => CallK → Tm → St → (Tm → St → Bool) → Bool) (fun _ T s k => k T s) (fun d _ ih call T s k => opD d call T s fun T s => ih call T s k) l
theorem dsK_ok {call : CallF} {callK : CallK} (hc : CallGot call callK) : ∀ {l : List DOp} {T : Tm} {s : St} {k : Tm → St → Bool} (vs : List Nat) (rs : List (Option Nat)), covDs l = true → plainD l = true → dsK l callK T s k = true →
    ∃ T' s', evD call l T s vs rs = some (T', s') ∧ k T' s' = true
  | [], T, s, k, vs, rs, _, _, h => ⟨T, s, rfl, h⟩
  | d :: l, T, s, k, vs, rs, hcv, hpl, h => by
    have h : opD d callK T s (fun T s => dsK l callK T s k) = true := h
    simp only [covDs, Bool.and_eq_true] at hcv
    simp only [plainD, Bool.and_eq_true] at hpl
    have hpre : d.pre = none := by
      have := hpl.1
      split at this <;> first | assumption | cases this
    have hpost : d.post = [] := by
      have := hpl.1
      split at this <;> first | assumption | cases this
    have hp1 : ∀ s rd vs, chkPre s rd none vs = true := by
      intro s rd vs; cases rd <;> rfl
    unfold opD at h
    simp only [evD, evD2_eq hcv.1, hpre, hpost]
    rcases wantE_ok h with ⟨h1, h2⟩ | ⟨h1, h2⟩
    · obtain ⟨v, s', h3, h4⟩ := freshE_ok hc h1 h2
      rw [putE_eq] at h4
      obtain ⟨T2, s2, h5, h6⟩ := dsK_ok hc (s.ver :: vs) (rdI (Tm.opd T) d.e.i :: rs) hcv.2 hpl.2 h4
      exact ⟨T2, s2, by simp only [h3, hp1, chkPost, h5], h6⟩
    · rw [putE_eq] at h2
      have h3 : evD2 call d T s = some (.tup [], s, none) := by simp only [evD2, h1]
      obtain ⟨T2, s2, h5, h6⟩ := dsK_ok hc (s.ver :: vs) (none :: rs) hcv.2 hpl.2 h2
      exact ⟨T2, s2, by simp only [h3, hp1, chkPost, h5], h6⟩
/-- A region in general. -/
def dgK (l : List DOp) : CallK → Tm → St → List Nat → List (Option Nat) → (Tm → St → Bool) → Bool :=
  List.rec (motive := fun _ => CallK → Tm → St → List Nat → List (Option Nat) → (Tm → St → Bool) → Bool) (fun _ T s _ _ k => k T s)
    (fun d _ ih call T s vs rs k => fNat s.ver fun ver => wantE d.e.guard T
      (fOpt fNat (rdI (opF T) d.e.i) fun rd => bB (chkPre s rd d.pre vs) (freshE d.e.i s (iE d.e.i call T s fun v s' => bB (chkPost s' ver rs d.post) (putE d.e.dst T v fun T => ih call T s' (ver :: vs) (rd :: rs) k) false)) false)
      (bB (chkPost s ver rs d.post) (putE d.e.dst T (.tup []) fun T => ih call T s (ver :: vs) (none :: rs) k) false)) l
theorem dgK_ok {call : CallF} {callK : CallK} (hc : CallGot call callK) : ∀ {l : List DOp} {T : Tm} {s : St} {k : Tm → St → Bool} {vs : List Nat} {rs : List (Option Nat)}, covDs l = true → dgK l callK T s vs rs k = true →
    ∃ T' s', evD call l T s vs rs = some (T', s') ∧ k T' s' = true
  | [], T, s, k, vs, rs, _, h => ⟨T, s, rfl, h⟩
  | d :: l, T, s, k, vs, rs, hcv, h => by
    have h : (fNat s.ver fun ver => wantE d.e.guard T
      (fOpt fNat (rdI (opF T) d.e.i) fun rd => bB (chkPre s rd d.pre vs) (freshE d.e.i s (iE d.e.i callK T s fun v s' => bB (chkPost s' ver rs d.post) (putE d.e.dst T v fun T => dgK l callK T s' (ver :: vs) (rd :: rs) k) false)) false)
      (bB (chkPost s ver rs d.post) (putE d.e.dst T (.tup []) fun T => dgK l callK T s (ver :: vs) (none :: rs) k) false)) = true := h
    rw [fNat_eq, fOpt_eq _ fNat_eq, opF_eq] at h
    simp only [covDs, Bool.and_eq_true] at hcv
    simp only [evD, evD2_eq hcv.1]
    rcases wantE_ok h with ⟨h1, h2⟩ | ⟨h1, h2⟩
    · obtain ⟨h2a, h2b⟩ := bB_t h2
      obtain ⟨v, s', h3, h4⟩ := freshE_ok hc h1 h2b
      obtain ⟨h4a, h4b⟩ := bB_t h4
      rw [putE_eq] at h4b
      obtain ⟨T2, s2, h5, h6⟩ := dgK_ok hc hcv.2 h4b
      exact ⟨T2, s2, by simp only [h3, h2a, h4a, h5], h6⟩
    · obtain ⟨h2a, h2b⟩ := bB_t h2
      rw [putE_eq] at h2b
      have h3 : evD2 call d T s = some (.tup [], s, none) := by simp only [evD2, h1]
      obtain ⟨T2, s2, h5, h6⟩ := dgK_ok hc hcv.2 h2b
      exact ⟨T2, s2, by simp only [h3, chkPre, h2a, h5], h6⟩
/-- A region whose order is open. -/
def dK (l : List DOp) (call : CallK) (T : Tm) (s : St) (k : Tm → St → Bool) : Bool := bB (covDs l) (bB (plainD l) (dsK l call T s k) (dgK l call T s [] [] k)) false
theorem dK_ok {call : CallF} {callK : CallK} (hc : CallGot call callK) {l : List DOp} {T : Tm} {s : St} {k : Tm → St → Bool} (h : dK l callK T s k = true) : ∃ T' s', evD call l T s [] [] = some (T', s') ∧ k T' s' = true := by
  obtain ⟨h1, h2⟩ := bB_t h
  cases hp : plainD l with
  | true => rw [hp] at h2; exact dsK_ok hc [] [] h1 hp h2
  | false => rw [hp] at h2; exact dgK_ok hc h1 h2
end
end Go.Wg
