/- Instructions of the small machine, and what each answers. -/
import Derived.Test.YtfeddldjjpnjoaaGreatDoorD5
namespace Go.Wg
variable {P : Program} {ρ : Rho} {g : Get} {w : World}

inductive Opd where
  | t (n : Nat)
  | c (v : V)
  deriving Inhabited

/-- What leaves memory as it is. -/
inductive Q where
  | bad
  | mov (x : Opd)
  | pick (c a b : Opd)
  | build (zero : List V) (parts : List (Nat × Nat × Opd))
  | ld1 (x : Opd)
  | ldn (n : Nat) (x : Opd)
  | nck (x : Opd)
  | bin (op : BinOp) (x y : Opd)
  | bni (op : BinOp) (x y : Opd)
  | eqr (neq : Bool) (k : RK) (x y : Opd)
  | eqs (neq : Bool) (k : List Leaf) (x y : Opd)
  | un (op : UnOp) (x : Opd)
  | cvi (k : IntKind) (x : Opd)
  | cvs (x : Opd)
  | cbs (x : Opd)
  | ifc (t : Nat) (x : Opd)
  | mkf (f : Nat) (caps : List Opd)
  | sls (x : Opd) (lo hi : Option Opd)
  | sl (esz : Nat) (x : Opd) (lo hi mx : Option Opd)
  | sla (n esz : Nat) (x : Opd) (lo hi mx : Option Opd)
  | fa (off : Nat) (x : Opd)
  | fld (off : Nat) (n : Option Nat) (x : Opd)
  | ia (esz : Nat) (x ix : Opd)
  | iaa (len esz : Nat) (x ix : Opd)
  | ixs (x ix : Opd)
  | ixa (len esz : Nat) (n : Option Nat) (x ix : Opd)
  | lk (k : KK) (zero : V) (ok : Bool) (x ix : Opd)
  | ext (n : Nat) (x : Opd)
  | lenS (x : Opd)
  | lenL (x : Opd)
  | lenM (x : Opd)
  | lenn (n : Nat) (x : Opd)
  | cap (x : Opd)
  | mn (x : Opd) (ys : List Opd)
  | mx (x : Opd) (ys : List Opd)
  deriving Inhabited

/-- What makes a new object. -/
inductive A where
  | new (l : List V)
  | box (x : Opd)
  | mkSl (esz n : Nat) (zero : List V) (parts : List (Nat × Nat × Opd))
  | mk (esz bytes : Nat) (zero : List V) (x y : Opd)
  | mkm
  | sb (x : Opd)
  deriving Inhabited

/-- What writes. -/
inductive H where
  | st (n : Nat) (a v : Opd)
  | cpy (esz : Nat) (d x : Opd)
  | app (esz bytes : Nat) (x y : Opd)
  | appZ (esz bytes : Nat) (zero : List V) (x y : Opd)
  | clr (esz : Nat) (zero : List V) (x : Opd)
  | mu (k : KK) (m x v : Opd)
  deriving Inhabited

inductive I where
  | q (q : Q)
  | a (a : A)
  | h (h : H)
  | call (f : Opd) (args : List Opd)
  deriving Inhabited

abbrev Env := Opd → Option V

def evL (e : Env) : List Opd → Option (List V)
  | [] => some []
  | x :: r => match e x, evL e r with
    | some v, some l => some (v :: l)
    | _, _ => none

/-- A bound that may be left out: the second is whether it could be told. -/
def evO (e : Env) (x : Option Opd) : Option (Option V) :=
  match x with
  | none => some none
  | some x => match e x with
    | some v => some (some v)
    | none => none

def evP (e : Env) : List (Nat × Nat × Opd) → Option (List (Nat × Nat × V))
  | [] => some []
  | (a, b, x) :: r => match e x, evP e r with
    | some v, some l => some ((a, b, v) :: l)
    | _, _ => none

def ev1 (e : Env) (x : Opd) (f : V → Option V) : Option V := match e x with
  | some v => f v
  | none => none
def ev2 (e : Env) (x y : Opd) (f : V → V → Option V) : Option V := match e x, e y with
  | some u, some v => f u v
  | _, _ => none

def vslz (esz : Nat) (g : Get) (x : V) (lo hi mx : Option V) : Option V := match x with
  | .sl o off len cap z => match Nat.beq z esz with
    | true => vsl g (.sl o off len cap z) lo hi mx
    | false => none
  | x => vsl g x lo hi mx
def vlenm (g : Get) (x : V) : Option V := match x with
  | .nilm => some (.i .i64 0)
  | .m o => match g o with
    | some (.map es _) => some (.i .i64 es.length)
    | _ => none
  | _ => none

def evQ (e : Env) (g : Get) : Q → Option V
  | .bad => none
  | .mov x => e x
  | .pick c a b => match e c with
    | some (.b true) => e a
    | some (.b false) => e b
    | _ => none
  | .build zero parts => match evP e parts with
    | some l => vbuild zero l
    | none => none
  | .ld1 x => ev1 e x (vld1 g)
  | .ldn n x => ev1 e x (vldn n g)
  | .nck x => ev1 e x vnck
  | .bin op x y => ev2 e x y (vbin op)
  | .bni op x y => ev2 e x y fun u v => match u with
    | .b _ => none
    | u => vbin op u v
  | .eqr neq k x y => ev2 e x y (veqrV neq k)
  | .eqs neq k x y => ev2 e x y (veqs neq k)
  | .un op x => ev1 e x (vun op)
  | .cvi k x => ev1 e x (vcvi k)
  | .cvs x => ev1 e x fun v => match v with
    | .s b => some (.s b)
    | _ => none
  | .cbs x => ev1 e x (vcbs g)
  | .ifc t x => ev1 e x fun v => some (.ifc t v)
  | .mkf f caps => match evL e caps with
    | some l => some (.fn f l)
    | none => none
  | .sls x lo hi => match e x, evO e lo, evO e hi with
    | some v, some l, some h => vsls v l h
    | _, _, _ => none
  | .sl esz x lo hi mx => match e x, evO e lo, evO e hi, evO e mx with
    | some v, some l, some h, some m => vslz esz g v l h m
    | _, _, _, _ => none
  | .sla n esz x lo hi mx => match e x, evO e lo, evO e hi, evO e mx with
    | some v, some l, some h, some m => vsla n esz g v l h m
    | _, _, _, _ => none
  | .fa off x => ev1 e x (vfa off)
  | .fld off n x => ev1 e x (vpart off n)
  | .ia esz x ix => ev2 e x ix (via esz)
  | .iaa len esz x ix => ev2 e x ix (viaa len esz)
  | .ixs x ix => ev2 e x ix vixs
  | .ixa len esz n x ix => ev2 e x ix (vixa len esz n)
  | .lk k zero ok x ix => ev2 e x ix (vlk g k zero ok)
  | .ext n x => ev1 e x (vext n)
  | .lenS x => ev1 e x fun v => match v with
    | .s b => some (.i .i64 b.size)
    | _ => none
  | .lenL x => ev1 e x fun v => match v with
    | .nilsl | .esl _ _ _ => some (.i .i64 0)
    | .sl _ _ n _ _ => some (.i .i64 n)
    | _ => none
  | .lenM x => ev1 e x (vlenm g)
  | .lenn n x => ev1 e x fun _ => some (.i .i64 n)
  | .cap x => ev1 e x (vcap g)
  | .mn x ys => match e x, evL e ys with
    | some v, some l => vmin v l
    | _, _ => none
  | .mx x ys => match e x, evL e ys with
    | some v, some l => vmax v l
    | _, _ => none

def evA (e : Env) (s : St) : A → Option (V × St)
  | .new l => hnew l s
  | .box x => match e x with
    | some v => hnew v.cells s
    | none => none
  | .mkSl esz n zero parts => match evP e parts with
    | some l => match vfill zero l with
      | some r => hmks esz n n r s
      | none => none
    | none => none
  | .mk esz bytes zero x y => match e x, e y with
    | some u, some v => hmake esz bytes zero s u v
    | _, _ => none
  | .mkm => hmkm s
  | .sb x => match e x with
    | some v => hsb s v
    | none => none

def unitV (x : Option St) : Option (V × St) := match x with
  | some s => some (.tup [], s)
  | none => none

def evH (e : Env) (s : St) : H → Option (V × St)
  | .st n a v => match e a, e v with
    | some a, some v => unitV (hst n s a v)
    | _, _ => none
  | .cpy esz d x => match e d, e x with
    | some d, some x => hcpy esz s d x
    | _, _ => none
  | .app esz bytes x y => match e x, e y with
    | some x, some y => happ esz bytes s x y
    | _, _ => none
  | .appZ esz bytes zero x y => match e x, e y with
    | some x, some y => happZ esz bytes zero s x y
    | _, _ => none
  | .clr esz zero x => match e x with
    | some x => hclr esz zero s x
    | none => none
  | .mu k m x v => match e m, e x, e v with
    | some m, some x, some v => unitV (hmu k s m x v)
    | _, _, _ => none

/-- Operands of the program's own, told. -/
def cO (x : Operand) : Option Opd :=
  match x with
  | .tmp t => some (.t t)
  | .const v => match cV v with
    | some v => some (.c v)
    | none => none
  | .func f => some (.c (.fn f []))
  | .global _ => none

def cOs : List Operand → Option (List Opd)
  | [] => some []
  | x :: r => match cO x, cOs r with
    | some y, some l => some (y :: l)
    | _, _ => none

def cOo (x : Option Operand) : Option (Option Opd) := match x with
  | none => some none
  | some x => match cO x with
    | some y => some (some y)
    | none => none

/-- What operands hold is what they hold there. -/
def EnvR (ρ : Rho) (e : Env) (r : Operand → Value) : Prop := ∀ X x v, cO X = some x → e x = some v → Rel ρ v (r X)

/-- What an operation of the model's ends with. -/
def Res (P : Program) (N : Sem Next) (ρ : Rho) (s : St) (w : World) (v : V) (s' : St) : Prop :=
  ∃ n w' ρ' x, N.run P w = .ok n w' ∧ (n = .value x ∨ (n = .skip ∧ x = undef)) ∧ Rel ρ' v x ∧ Post ρ s w ρ' s' w'

/-- What an operation that leaves memory as it is ends with. -/
def ResQ (P : Program) (N : Sem Next) (ρ : Rho) (w : World) (v : V) : Prop := ∃ x, N.run P w = .ok (.value x) w ∧ Rel ρ v x

theorem ResQ.of_ok {S : Sem Value} {N : Sem Next} {v : V} (_hs : Sat ρ g w) (hN : N = (do pure (.value (← S)))) (h : ∃ y, Ok P S w y ∧ Rel ρ v y) : ResQ P N ρ w v := by
  obtain ⟨y, h1, h2⟩ := h
  refine ⟨y, ?_, h2⟩
  subst hN
  simp [show S.run P w = .ok y w from h1]

theorem Res.of_does {s s' : St} {S : Sem Value} {N : Sem Next} {v : V} (hN : N = (do pure (.value (← S)))) (h : Does P S ρ s w v s') : Res P N ρ s w v s' := by
  obtain ⟨x, w', ρ', h1, h2, h3⟩ := h
  refine ⟨.value x, w', ρ', x, ?_, .inl rfl, h2, h3⟩
  subst hN
  simp [h1]

theorem Res.of_doesU {s s' : St} {S : Sem Unit} {N : Sem Next} (hN : N = (do S; pure .skip)) (h : DoesU P S ρ s w s') : Res P N ρ s w (.tup []) s' := by
  obtain ⟨w', ρ', h1, h2⟩ := h
  refine ⟨.skip, w', ρ', undef, ?_, .inr ⟨rfl, rfl⟩, ?_, h2⟩
  · subst hN; simp [h1]
  · simp only [Rel, RelL]; exact ⟨[], rfl, rfl⟩

/-- The operation at a slot: it is told, and told rightly. -/
def SndQ (P : Program) (o : Oper) (q : Q) : Prop :=
  ∀ ρ (s : Get) w r e v, Sat ρ s w → EnvR ρ e r → evQ e s q = some v → ResQ P (execOp r o) ρ w v
def SndA (P : Program) (o : Oper) (q : A) : Prop :=
  ∀ ρ s w r e v s', Sat ρ s.get w → EnvR ρ e r → Fresh ρ s s' → evA e s q = some (v, s') → Res P (execOp r o) ρ s w v s'
def SndH (P : Program) (o : Oper) (q : H) : Prop :=
  ∀ ρ s w r e v s', Sat ρ s.get w → EnvR ρ e r → Fresh ρ s s' → evH e s q = some (v, s') → Res P (execOp r o) ρ s w v s'

theorem ev1_some {e : Env} {x : Opd} {f : V → Option V} {v : V} (h : ev1 e x f = some v) : ∃ u, e x = some u ∧ f u = some v := by
  unfold ev1 at h; split at h
  · rename_i u hu; exact ⟨u, hu, h⟩
  · cases h
theorem ev2_some {e : Env} {x y : Opd} {f : V → V → Option V} {v : V} (h : ev2 e x y f = some v) : ∃ a b, e x = some a ∧ e y = some b ∧ f a b = some v := by
  unfold ev2 at h; split at h
  · rename_i a b ha hb; exact ⟨a, b, ha, hb, h⟩
  · cases h

theorem evO_rel {e : Env} {r : Operand → Value} (he : EnvR ρ e r) {X : Option Operand} {x : Option Opd} {v : Option V} (hc : cOo X = some x) (hv : evO e x = some v) : RelO ρ v (X.map r) := by
  unfold cOo at hc
  split at hc
  · cases hc; simp only [evO] at hv; cases hv; rfl
  · split at hc
    · rename_i y hy; cases hc
      simp only [evO] at hv
      split at hv
      · rename_i u hu; cases hv; exact ⟨_, rfl, he _ _ _ hy hu⟩
      · cases hv
    · cases hc

theorem evL_rel {e : Env} {r : Operand → Value} (he : EnvR ρ e r) : ∀ {X : List Operand} {x : List Opd} {v : List V}, cOs X = some x → evL e x = some v → RelL ρ v (X.map r)
  | [], x, v, hc, hv => by
    simp only [cOs] at hc; cases hc
    simp only [evL] at hv; cases hv
    simp [RelL]
  | a :: X, x, v, hc, hv => by
    simp only [cOs] at hc
    split at hc
    · rename_i y l hy hl
      cases hc
      simp only [evL] at hv
      split at hv
      · rename_i u m hu hm
        cases hv
        simp only [List.map_cons, RelL]
        exact ⟨_, _, he _ _ _ hy hu, evL_rel he hl hm, rfl⟩
      · cases hv
    · cases hc

end Go.Wg
