/- The small machine for the kernel: code; no statement of the set is proved here. -/
import Derived.Test.YtfeddldjjpnjoaaGreatDoorK6
namespace Go.Wg
noncomputable section

abbrev KE := Ex → Tm → St → Bool
abbrev RecK := C → Tm → St → KE → Bool
def RecGot (rec : EvC) (recK : RecK) : Prop := ∀ c T s k, recK c T s k = true → ∃ ex T' s', rec c T s = some (ex, T', s') ∧ k ex T' s' = true

def argsE (l : List V) : Nat → Tm → (Tm → Bool) → Bool :=
  List.rec (motive := fun _ => Nat → Tm → (Tm → Bool) → Bool) (fun _ T k => k T) (fun v _ ih n T k => setE T n v fun T => fNat (Nat.succ n) fun n => ih n T k) l
theorem argsE_eq : ∀ (l : List V) (n : Nat) (T : Tm) (k : Tm → Bool), argsE l n T k = k (args0 l n T)
  | [], _, _, _ => rfl
  | v :: l, n, T, k => by
    show setE T n v (fun T => fNat (Nat.succ n) fun n => argsE l n T k) = _
    rw [setE_eq, fNat_eq, argsE_eq l]; rfl
def rvE (r : Rv) : Tm → St → (V → Bool) → Bool :=
  Rv.rec (motive := fun _ => Tm → St → (V → Bool) → Bool) (fun t T _ k => opE T (.t t) k) (fun n t T s k => opE T (.t t) fun a => Option.rec (motive := fun _ => Bool) (ld1E s.h a k) (fun n => ldnE n s.h a k) n) r
def rvsE (l : List Rv) (T : Tm) (s : St) (k : List V → Bool) : Bool :=
  List.rec (motive := fun _ => (List V → Bool) → Bool) (fun k => k []) (fun r _ ih k => rvE r T s fun v => ih fun l => k (v :: l)) l k
theorem rvsE_ok : ∀ {l : List Rv} {T : Tm} {s : St} {k : List V → Bool}, rvsE l T s k = true → ∃ vs, rvs T s l = some vs ∧ k vs = true
  | [], _, _, _, h => ⟨[], rfl, h⟩
  | .tmp t :: l, T, s, k, h => by
    have h : opE T (.t t) (fun v => rvsE l T s fun l => k (v :: l)) = true := h
    rw [opE_eq] at h
    obtain ⟨v, h1, h2⟩ := oB_true h
    obtain ⟨vs, h3, h4⟩ := rvsE_ok h2
    exact ⟨v :: vs, by simp only [rvs, show Tr.get T t = some v from h1, h3], h4⟩
  | .cell none t :: l, T, s, k, h => by
    have h : opE T (.t t) (fun a => ld1E s.h a fun v => rvsE l T s fun l => k (v :: l)) = true := h
    rw [opE_eq] at h
    obtain ⟨a, h1, h2⟩ := oB_true h
    rw [ld1E_eq] at h2
    obtain ⟨v, h5, h6⟩ := oB_true h2
    obtain ⟨vs, h3, h4⟩ := rvsE_ok h6
    exact ⟨v :: vs, by simp only [rvs, show Tr.get T t = some a from h1, h3]; rw [show vld1 s.get a = some v from h5], h4⟩
  | .cell (some n) t :: l, T, s, k, h => by
    have h : opE T (.t t) (fun a => ldnE n s.h a fun v => rvsE l T s fun l => k (v :: l)) = true := h
    rw [opE_eq] at h
    obtain ⟨a, h1, h2⟩ := oB_true h
    rw [ldnE_eq] at h2
    obtain ⟨v, h5, h6⟩ := oB_true h2
    obtain ⟨vs, h3, h4⟩ := rvsE_ok h6
    exact ⟨v :: vs, by simp only [rvs, show Tr.get T t = some a from h1, h3]; rw [show vldn n s.get a = some v from h5], h4⟩
def oneE (l : List V) (k : V → Bool) : Bool := List.rec (motive := fun _ => Bool) (k (.tup [])) (fun v r _ => List.rec (motive := fun _ => Bool) (k v) (fun _ _ _ => k (.tup l)) r) l
def resE (l : List Rv) (T : Tm) (s : St) (k : V → Bool) : Bool := rvsE l T s fun vs => oneE vs k
theorem resE_ok {l : List Rv} {T : Tm} {s : St} {k : V → Bool} (h : resE l T s k = true) : ∃ v, rv T s l = some v ∧ k v = true := by
  obtain ⟨vs, h1, h2⟩ := rvsE_ok h
  unfold rv
  rw [h1]
  cases vs with
  | nil => exact ⟨_, rfl, h2⟩
  | cons v r =>
    cases r with
    | nil => exact ⟨_, rfl, h2⟩
    | cons u r => exact ⟨_, rfl, h2⟩

/-- A call of a function that is told. -/
def callTE (F : Fs) (rec : RecK) (f : Nat) (args : List V) (s : St) (k : KS) : Bool :=
  Option.rec (motive := fun _ => Bool) false (fun fn => FnC.rec (motive := fun _ => Bool) (fun n rs body => lenE args 0 fun m => bB (Nat.ble m n)
    (argsE args 0 (Tr.nil 3) fun T => rec body T s fun ex T s => Ex.rec (motive := fun _ => Bool) (resE rs T s fun v => k v s) (fun _ => false) (resE rs T s fun v => k v s) ex) false) fn) (F.f f)
theorem callTE_ok {F : Fs} {rec : EvC} {recK : RecK} (hr : RecGot rec recK) {f : Nat} {args : List V} {s : St} {k : KS} (h : callTE F recK f args s k = true) : ∃ v s', callT F rec f args s = some (v, s') ∧ k v s' = true := by
  unfold callTE at h
  unfold callT
  cases hf : F.f f with
  | none => rw [hf] at h; exact nomatch (show false = true from h)
  | some fn =>
    rw [hf] at h
    obtain ⟨n, rs, body⟩ := fn
    have h : (lenE args 0 fun m => bB (Nat.ble m n) (argsE args 0 (Tr.nil 3) fun T => recK body T s fun ex T s => Ex.rec (motive := fun _ => Bool) (resE rs T s fun v => k v s) (fun _ => false) (resE rs T s fun v => k v s) ex) false) = true := h
    rw [lenE_eq, Nat.zero_add, argsE_eq] at h
    obtain ⟨h1, h2⟩ := bB_t h
    obtain ⟨ex, T', s', h3, h4⟩ := hr _ _ _ _ h2
    dsimp only
    rw [h1, h3]
    cases ex with
    | exit id => exact nomatch (show false = true from h4)
    | normal =>
      obtain ⟨v, h5, h6⟩ := resE_ok (show resE rs T' s' (fun v => k v s') = true from h4)
      exact ⟨v, s', by simp only [h5], h6⟩
    | ret =>
      obtain ⟨v, h5, h6⟩ := resE_ok (show resE rs T' s' (fun v => k v s') = true from h4)
      exact ⟨v, s', by simp only [h5], h6⟩
def callFE (F : Fs) (X : XF) (rec : RecK) (f : Nat) (args : List V) (s : St) (k : KS) : Bool :=
  Option.rec (motive := fun _ => Bool) (callTE F rec f args s k) (fun x => oB2 (x args s) fun v s' => fV v fun v => fNat s.next fun n => fSt [n] s' fun s' => k v s') (X f)
theorem callFE_ok {F : Fs} {X : XF} {rec : EvC} {recK : RecK} (hr : RecGot rec recK) {f : Nat} {args : List V} {s : St} {k : KS} (h : callFE F X recK f args s k = true) : ∃ v s', callFn F X rec f args s = some (v, s') ∧ k v s' = true := by
  unfold callFE at h
  unfold callFn
  cases hx : X f with
  | none => rw [hx] at h; exact callTE_ok hr h
  | some x =>
    rw [hx] at h
    obtain ⟨v, s', h1, h2⟩ := got2 (show oB2 (x args s) _ = true from h)
    rw [fV_eq, fNat_eq, fSt_eq] at h2
    exact ⟨v, s', h1, h2⟩

/-- The record of a loop over a function. -/
def loopE (h : Hp) (o : Nat) (k : Nat → Tm → Nat → Bool) : Bool :=
  Option.rec (motive := fun _ => Bool) false (fun ob => Ob.rec (motive := fun _ => Bool) (fun _ _ _ _ => false) (fun _ _ => false) (fun a T site _ => k a T site) ob) (getM h o)
theorem loopE_ok {s : St} {o : Nat} {k : Nat → Tm → Nat → Bool} (h : loopE s.h o k = true) : ∃ a T site ver, s.get o = some (.loop a T site ver) ∧ k a T site = true := by
  unfold loopE at h
  rw [getM_eq] at h
  cases hg : s.h.get o with
  | none => rw [hg] at h; exact nomatch (show false = true from h)
  | some ob =>
    rw [hg] at h
    cases ob with
    | loop a T site ver => exact ⟨a, T, site, ver, hg, h⟩
    | _ => exact nomatch (show false = true from h)
def putPsE (ps : List Nat) : List V → Tm → (Tm → Bool) → Bool :=
  List.rec (motive := fun _ => List V → Tm → (Tm → Bool) → Bool) (fun vs T k => List.rec (motive := fun _ => Bool) (k T) (fun _ _ _ => false) vs)
    (fun p _ ih vs T k => List.rec (motive := fun _ => Bool) false (fun v r _ => setE T p v fun T => ih r T k) vs) ps
theorem putPsE_ok : ∀ {ps : List Nat} {vs : List V} {T : Tm} {k : Tm → Bool}, putPsE ps vs T k = true → ∃ T', putPs ps vs T = some T' ∧ k T' = true
  | [], [], T, _, h => ⟨T, rfl, h⟩
  | [], _ :: _, _, _, h => nomatch (show false = true from h)
  | _ :: _, [], _, _, h => nomatch (show false = true from h)
  | p :: ps, v :: vs, T, k, h => by
    have h : setE T p v (fun T => putPsE ps vs T k) = true := h
    rw [setE_eq] at h
    exact putPsE_ok (ps := ps) (vs := vs) (T := Tr.set T p (some v)) h
def exKE (ex : Ex) : Nat := Ex.rec (motive := fun _ => Nat) 0 (fun id => Nat.add id 3) 2 ex
def writeE (s : St) (o : Nat) (ob : Nat → Ob) (k : St → Bool) : Bool := St.rec (motive := fun _ => Bool) (fun h n v => setM h o (some (ob v)) fun h => fNat (Nat.succ v) fun v => k ⟨h, n, v⟩) s
theorem writeE_eq (s : St) (o : Nat) (ob : Nat → Ob) (k : St → Bool) : writeE s o ob k = k (s.write o (ob s.ver) none) := by
  obtain ⟨h, n, v⟩ := s
  show setM h o _ _ = _
  rw [setM_eq, fNat_eq]; rfl
def callYE (F : Fs) (rec : RecK) (l : Nat) (args : List V) (s : St) (k : KS) : Bool :=
  loopE s.h l fun _ T site => Option.rec (motive := fun _ => Bool) false (fun rd => Rd.rec (motive := fun _ => Bool) (fun ps assign body => putPsE ps args T fun T1 => rec assign T1 s fun ex T2 s1 =>
    Ex.rec (motive := fun _ => Bool) (loopE s1.h l fun a T3 site3 => bB (Nat.beq a 0) (writeE s1 l (fun v => .loop 1 T3 site3 v) fun s1 => rec body T2 s1 fun ex _ s2 =>
      loopE s2.h l fun _ T4 site4 => fNat (exKE ex) fun n => writeE s2 l (fun v => .loop n T4 site4 v) fun s3 => Ex.rec (motive := fun _ => Bool) (k (.b true) s3) (fun _ => k (.b false) s3) (k (.b false) s3) ex) false) (fun _ => false) false ex) rd) (F.y site)
theorem callYE_ok {F : Fs} {rec : EvC} {recK : RecK} (hr : RecGot rec recK) {l : Nat} {args : List V} {s : St} {k : KS} (h : callYE F recK l args s k = true) : ∃ v s', callY F rec l args s = some (v, s') ∧ k v s' = true := by
  unfold callYE at h
  obtain ⟨a, T, site, ver, h1, h2⟩ := loopE_ok h
  unfold callY
  rw [h1]
  dsimp only
  cases hy : F.y site with
  | none => rw [hy] at h2; exact nomatch (show false = true from h2)
  | some rd =>
    rw [hy] at h2
    obtain ⟨ps, assign, body⟩ := rd
    obtain ⟨T1, h3, h4⟩ := putPsE_ok (show putPsE ps args T _ = true from h2)
    obtain ⟨ex, T2, s1, h5, h6⟩ := hr _ _ _ _ h4
    dsimp only
    rw [h3]
    dsimp only
    rw [h5]
    cases ex with
    | exit id => exact nomatch (show false = true from h6)
    | ret => exact nomatch (show false = true from h6)
    | normal =>
      obtain ⟨a3, T3, site3, ver3, h7, h8⟩ := loopE_ok (show loopE s1.h l _ = true from h6)
      obtain ⟨h9, h10⟩ := bB_t h8
      rw [writeE_eq] at h10
      obtain ⟨ex2, T5, s2, h11, h12⟩ := hr _ _ _ _ h10
      obtain ⟨a4, T4, site4, ver4, h13, h14⟩ := loopE_ok h12
      rw [fNat_eq, writeE_eq] at h14
      dsimp only
      rw [h7]
      dsimp only
      rw [h9]
      dsimp only
      rw [h11]
      dsimp only
      rw [h13]
      dsimp only
      cases ex2 with
      | normal => exact ⟨_, _, rfl, h14⟩
      | ret => exact ⟨_, _, rfl, h14⟩
      | exit id => exact ⟨_, _, rfl, h14⟩
def callWE (F : Fs) (X : XF) (rec : RecK) : CallK := fun c args s k => Cal.rec (motive := fun _ => Bool) (fun f => callFE F X rec f args s k) (fun l => callYE F rec l args s k) c
theorem callWE_ok {F : Fs} {X : XF} {rec : EvC} {recK : RecK} (hr : RecGot rec recK) : CallGot (callW F X rec) (callWE F X recK) := by
  intro c l s k h
  cases c with
  | f f => exact callFE_ok hr h
  | y o => exact callYE_ok hr h
/-- A loop over a function. -/
def exOfE (n : Nat) (k : Ex → Bool) : Bool := Nat.rec (motive := fun _ => Bool) (k .normal) (fun n _ => Nat.rec (motive := fun _ => Bool) (k .normal) (fun n _ => Nat.rec (motive := fun _ => Bool) (k .ret) (fun n _ => k (.exit n)) n) n) n
theorem exOfE_eq (n : Nat) (k : Ex → Bool) : exOfE n k = k (exOf n) := by
  match n with
  | 0 | 1 | 2 => rfl
  | _ + 3 => rfl
def rfE (F : Fs) (rec : RecK) (g : Opd) (site : Nat) (T : Tm) (s : St) (k : KE) : Bool :=
  opE T g fun fv => is_fn fv (fun f caps => St.rec (motive := fun _ => Bool) (fun h n v => bB (Nat.blt n 2097152) (setM h n (some (.loop 0 T site v)) fun h => fNat (Nat.succ n) fun n' => fNat (Nat.succ v) fun v' =>
    callTE F rec f (.yv n :: caps) ⟨h, n', v'⟩ fun _ s' => loopE s'.h n fun a _ _ => bB (Nat.beq a 1) false (setM s'.h n none fun h => exOfE a fun ex => k ex T ⟨h, s'.next, s'.ver⟩)) false) s) false
theorem rfE_ok {F : Fs} {rec : EvC} {recK : RecK} (hr : RecGot rec recK) {g : Opd} {site : Nat} {T : Tm} {s : St} {k : KE} (h : rfE F recK g site T s k = true) : ∃ ex T' s', evRf (callT F rec) g site T s = some (ex, T', s') ∧ k ex T' s' = true := by
  unfold rfE at h
  rw [opE_eq] at h
  obtain ⟨fv, h1, h2⟩ := oB_true h
  unfold evRf
  cases fv with
  | fn f caps =>
    obtain ⟨hp, n, v⟩ := s
    obtain ⟨h3, h4⟩ := bB_t (show bB (Nat.blt n 2097152) _ false = true from h2)
    rw [setM_eq, fNat_eq, fNat_eq] at h4
    obtain ⟨u, s', h5, h6⟩ := callTE_ok hr h4
    obtain ⟨a, T3, site3, ver3, h7, h8⟩ := loopE_ok h6
    have h9 : Nat.beq a 1 = false ∧ k (exOf a) T ⟨s'.h.set n none, s'.next, s'.ver⟩ = true := by
      cases hb : Nat.beq a 1 with
      | true => rw [hb] at h8; exact nomatch (show false = true from h8)
      | false =>
        rw [hb, bB_false, setM_eq, exOfE_eq] at h8
        exact ⟨rfl, h8⟩
    rw [show okNext ⟨hp, n, v⟩ = true from h3]
    dsimp only
    rw [h1]
    dsimp only
    rw [show callT F rec f (.yv n :: caps) (St.push ⟨hp, n, v⟩ (.loop 0 T site v)) = some (u, s') from h5]
    dsimp only
    rw [h7]
    dsimp only
    rw [h9.1]
    exact ⟨_, _, _, rfl, h9.2⟩
  | _ => exact nomatch (show false = true from h2)

/-! Code. -/
abbrev CK := Fs → XF → RecK → Tm → St → KE → Bool
def cReg (l : List OpE) : CK := fun F X rec T s k => opsK l (callWE F X rec) T s fun T s => k .normal T s
def cDreg (l : List DOp) : CK := fun F X rec T s k => dK l (callWE F X rec) T s fun T s => k .normal T s
def cSeq (a b : C) : CK := fun _ _ rec T s k => rec a T s fun ex T s => Ex.rec (motive := fun _ => Bool) (rec b T s k) (fun id => k (.exit id) T s) (k .ret T s) ex
def cCond (c : Opd) (a b : C) : CK := fun _ _ rec T s k => opE T c fun v => is_b v (fun x => bB x (rec a T s k) (rec b T s k)) false
def cBlock (id : Nat) (a : C) : CK := fun _ _ rec T s k => rec a T s fun ex T s => Ex.rec (motive := fun _ => Bool) (k .normal T s) (fun j => bB (Nat.beq j id) (k .normal T s) (k (.exit j) T s)) (k .ret T s) ex
def cLoop (a : C) : CK := fun _ _ rec T s k => rec a T s fun ex T s => Ex.rec (motive := fun _ => Bool) (rec (.loop a) T s k) (fun id => k (.exit id) T s) (k .ret T s) ex
def cRf (g : Opd) (site : Nat) : CK := fun F _ rec T s k => rfE F rec g site T s k
def stepE (c : C) : CK := C.rec (motive := fun _ => CK) (fun _ _ _ T s k => k .normal T s) cReg cDreg (fun a b _ _ => cSeq a b) (fun c a b _ _ => cCond c a b) (fun id a _ => cBlock id a) (fun a _ => cLoop a)
  (fun id _ _ _ T s k => k (.exit id) T s) (fun _ _ _ T s k => k .ret T s) cRf (fun _ _ _ _ _ _ => false) c
theorem stepE_ok {F : Fs} {X : XF} {rec : EvC} {recK : RecK} (hr : RecGot rec recK) : RecGot (evStep F X rec) (fun c T s k => stepE c F X recK T s k) := by
  intro c T s k h
  have hc := callWE_ok (F := F) (X := X) hr
  cases c with
  | skip => exact ⟨_, _, _, rfl, h⟩
  | exit id => exact ⟨_, _, _, rfl, h⟩
  | ret => exact ⟨_, _, _, rfl, h⟩
  | dead => exact nomatch (show false = true from h)
  | reg l =>
    obtain ⟨T', s', h1, h2⟩ := opsK_ok hc (show opsK l (callWE F X recK) T s _ = true from h)
    exact ⟨_, _, _, by simp only [evStep, h1], h2⟩
  | dreg l =>
    obtain ⟨T', s', h1, h2⟩ := dK_ok hc (show dK l (callWE F X recK) T s _ = true from h)
    exact ⟨_, _, _, by simp only [evStep, h1], h2⟩
  | seq a b =>
    obtain ⟨ex, T', s', h1, h2⟩ := hr a T s _ h
    cases ex with
    | normal =>
      obtain ⟨ex2, T2, s2, h3, h4⟩ := hr b T' s' k h2
      exact ⟨_, _, _, by simp only [evStep, h1, h3], h4⟩
    | exit id => exact ⟨_, _, _, by simp only [evStep, h1], h2⟩
    | ret => exact ⟨_, _, _, by simp only [evStep, h1], h2⟩
  | cond c a b =>
    have h : opE T c _ = true := h
    rw [opE_eq] at h
    obtain ⟨v, h1, h2⟩ := oB_true h
    cases v with
    | b x =>
      cases x with
      | true =>
        obtain ⟨ex2, T2, s2, h3, h4⟩ := hr a T s k h2
        exact ⟨_, _, _, by simp only [evStep, h1, h3], h4⟩
      | false =>
        obtain ⟨ex2, T2, s2, h3, h4⟩ := hr b T s k h2
        exact ⟨_, _, _, by simp only [evStep, h1, h3], h4⟩
    | _ => exact nomatch (show false = true from h2)
  | block id a =>
    obtain ⟨ex, T', s', h1, h2⟩ := hr a T s _ h
    cases ex with
    | normal => exact ⟨_, _, _, by simp only [evStep, h1], h2⟩
    | ret => exact ⟨_, _, _, by simp only [evStep, h1], h2⟩
    | exit j =>
      have h2 : bB (Nat.beq j id) (k .normal T' s') (k (.exit j) T' s') = true := h2
      cases hb : Nat.beq j id with
      | true => rw [hb] at h2; exact ⟨_, _, _, by simp only [evStep, h1, hb], h2⟩
      | false => rw [hb] at h2; exact ⟨_, _, _, by simp only [evStep, h1, hb], h2⟩
  | loop a =>
    obtain ⟨ex, T', s', h1, h2⟩ := hr a T s _ h
    cases ex with
    | normal =>
      obtain ⟨ex2, T2, s2, h3, h4⟩ := hr (.loop a) T' s' k h2
      exact ⟨_, _, _, by simp only [evStep, h1, h3], h4⟩
    | exit id => exact ⟨_, _, _, by simp only [evStep, h1], h2⟩
    | ret => exact ⟨_, _, _, by simp only [evStep, h1], h2⟩
  | rf g site => exact rfE_ok hr h
def evK (F : Fs) (X : XF) (n : Nat) : RecK := Nat.rec (motive := fun _ => RecK) (fun _ _ _ _ => false) (fun _ ih c T s k => stepE c F X ih T s k) n
theorem evK_ok (F : Fs) (X : XF) : ∀ n : Nat, RecGot (ev F X n) (evK F X n)
  | 0 => fun _ _ _ _ h => nomatch (show false = true from h)
  | n + 1 => stepE_ok (evK_ok F X n)
/-- A call, for the kernel. -/
def fnK (F : Fs) (X : XF) (n : Nat) (f : Nat) (args : List V) (s : St) (k : KS) : Bool := callFE F X (evK F X n) f args s k
theorem fnK_ok {F : Fs} {X : XF} {n f : Nat} {args : List V} {s : St} {k : KS} (h : fnK F X n f args s k = true) : ∃ v s', evFn F X n (.f f) args s = some (v, s') ∧ k v s' = true :=
  callFE_ok (evK_ok F X n) h
end
end Go.Wg
