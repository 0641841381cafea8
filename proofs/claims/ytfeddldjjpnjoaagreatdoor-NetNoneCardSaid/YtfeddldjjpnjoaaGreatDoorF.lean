/- The small machine itself. -/
import Derived.Test.YtfeddldjjpnjoaaGreatDoorE4
namespace Go.Wg
variable {P : Program} {ρ : Rho} {g : Get} {w : World}

/-- An operation with its slot and its guard: the slot that is asked, and what it is to hold. -/
structure OpE where
  dst : Option Nat
  guard : Option (Nat × Bool)
  i : I
  deriving Inhabited

/-- An operation of a region whose order is open: its number, the slots that it may read, how far back an operation stands that it might meet (of a read), how far back reads stand that it might meet (of one that writes), and the places of those that must have gone ahead. -/
structure DOp where
  idx : Nat
  e : OpE
  reads : List Nat
  pre : Option Nat
  post : List Nat
  dep : List Nat
  deriving Inhabited

inductive C where
  | skip
  | reg (l : List OpE)
  | dreg (l : List DOp)
  | seq (a b : C)
  | cond (c : Opd) (a b : C)
  | block (id : Nat) (a : C)
  | loop (a : C)
  | exit (id : Nat)
  | ret
  | rf (g : Opd) (site : Nat)
  | dead
  deriving Inhabited

/-- What a function hands back. -/
inductive Rv where
  | tmp (t : Nat)
  | cell (n : Option Nat) (t : Nat)
  deriving Inhabited

structure FnC where
  ntmps : Nat
  results : List Rv
  body : C
  deriving Inhabited

/-- A round of a loop over a function: the slots that are handed over, the assignment, the body. -/
structure Rd where
  ps : List Nat
  assign : C
  body : C
  deriving Inhabited

/-- Told functions, and told rounds. -/
structure Fs where
  f : Nat → Option FnC
  y : Nat → Option Rd

inductive Ex where
  | normal
  | exit (id : Nat)
  | ret

abbrev Tm := Tr 3 V

def Tm.opd (T : Tm) : Env
  | .t n => Tr.get T n
  | .c v => some v

def Tm.put (T : Tm) (d : Option Nat) (v : V) : Tm := match d with
  | some d => Tr.set T d (some v)
  | none => T

def memb (n : Nat) : List Nat → Bool
  | [] => false
  | m :: r => match Nat.beq n m with
    | true => true
    | false => memb n r

def Tm.only (T : Tm) (reads : List Nat) : Env
  | .t n => match memb n reads with
    | true => Tr.get T n
    | false => none
  | .c v => some v

/-- What is called: a function, or a round of a loop. -/
inductive Cal where
  | f (n : Nat)
  | y (o : Nat)

abbrev CallF := Cal → List V → St → Option (V × St)

def evCall (call : CallF) (e : Env) (s : St) (f : Opd) (args : List Opd) : Option (V × St) :=
  match e f with
  | some (.fn f caps) => match evL e args with
    | some l => call (.f f) (l ++ caps) s
    | none => none
  | some (.yv o) => match evL e args with
    | some l => call (.y o) l s
    | none => none
  | _ => none

def evI (call : CallF) (e : Env) (s : St) : I → Option (V × St)
  | .q q => match evQ e s.get q with
    | some v => some (v, s)
    | none => none
  | .a a => evA e s a
  | .h h => evH e s h
  | .call f args => evCall call e s f args

/-- Is an operation wanted? -/
def want (e : Env) (g : Option (Nat × Bool)) : Option Bool :=
  match g with
  | none => some true
  | some (d, x) => match e (.t d) with
    | some (.b y) => some (match x with
      | true => y
      | false => !y)
    | some (.tup []) => some false
    | _ => none

def evOp (call : CallF) (o : OpE) (T : Tm) (s : St) : Option (Tm × St) :=
  match want (Tm.opd T) o.guard with
  | some true => match evI call (Tm.opd T) s o.i with
    | some (v, s') => some (Tm.put T o.dst v, s')
    | none => none
  | some false => some (Tm.put T o.dst (.tup []), s)
  | none => none

def evOps (call : CallF) : List OpE → Tm → St → Option (Tm × St)
  | [], T, s => some (T, s)
  | o :: r, T, s => match evOp call o T s with
    | some (T', s') => evOps call r T' s'
    | none => none

/-- The object that a value leads to. -/
def objOf (v : Option V) : Option Nat := match v with
  | some (.p o _) => some o
  | some (.sl o _ _ _ _) => some o
  | some (.m o) => some o
  | _ => none

/-- The object that is looked into. -/
def rdQ (e : Env) : Q → Option Nat
  | .ld1 x | .ldn _ x | .cbs x | .sl _ x _ _ _ | .sla _ _ x _ _ _ | .lk _ _ _ x _ | .lenM x | .cap x => objOf (e x)
  | _ => none

def one (g : Get) (r : Option Nat) : Get := match r with
  | some o => fun j => match Nat.beq j o with
    | true => g o
    | false => none
  | none => fun _ => none

/-- A step of a region whose order is open: the value, memory, the object that was looked into. -/
def evD1 (call : CallF) (d : DOp) (T : Tm) (s : St) : Option (V × St × Option Nat) :=
  match want (Tm.only T d.reads) d.e.guard with
  | some true => match d.e.i with
    | .q q => match evQ (Tm.only T d.reads) (one s.get (rdQ (Tm.only T d.reads) q)) q with
      | some v => some (v, s, rdQ (Tm.only T d.reads) q)
      | none => none
    | .a a => match s.h.get s.next with
      | none => match evA (Tm.only T d.reads) s a with
        | some (v, s') => some (v, s', none)
        | none => none
      | some _ => none
    | .h h => match evH (Tm.only T d.reads) s h with
      | some (v, s') => some (v, s', none)
      | none => none
    | .call f args => match evCall call (Tm.only T d.reads) s f args with
      | some (v, s') => some (v, s', none)
      | none => none
  | some false => some (.tup [], s, none)
  | none => none

def nth {α : Type} : List α → Nat → Option α
  | [], _ => none
  | x :: _, 0 => some x
  | _ :: r, n + 1 => nth r n

/-- Is the object older than a count of changes? -/
def older (s : St) (o : Nat) (v : Nat) : Bool := match s.h.get o with
  | some ob => Nat.blt ob.ver v
  | none => false

def chkPre (s : St) (rd : Option Nat) (pre : Option Nat) (vs : List Nat) : Bool :=
  match rd, pre with
  | some o, some p => match nth vs p with
    | some v => older s o v
    | none => false
  | _, _ => true

def chkPost (s' : St) (v : Nat) (rs : List (Option Nat)) : List Nat → Bool
  | [] => true
  | p :: r => match nth rs p with
    | some (some o) => older s' o v && chkPost s' v rs r
    | some none => chkPost s' v rs r
    | none => false

def evD (call : CallF) : List DOp → Tm → St → List Nat → List (Option Nat) → Option (Tm × St)
  | [], T, s, _, _ => some (T, s)
  | d :: r, T, s, vs, rs => match evD1 call d T s with
    | some (v, s', rd) => match chkPre s rd d.pre vs, chkPost s' s.ver rs d.post with
      | true, true => evD call r (Tm.put T d.e.dst v) s' (s.ver :: vs) (rd :: rs)
      | _, _ => none
    | none => none

/-- The slots with which a function begins. -/
def args0 : List V → Nat → Tm → Tm
  | [], _, T => T
  | v :: r, k, T => args0 r (k + 1) (Tr.set T k (some v))

def rvs (T : Tm) (s : St) : List Rv → Option (List V)
  | [] => some []
  | .tmp t :: r => match Tr.get T t, rvs T s r with
    | some v, some l => some (v :: l)
    | _, _ => none
  | .cell n t :: r => match Tr.get T t with
    | some a => match (match n with
        | none => vld1 s.get a
        | some n => vldn n s.get a), rvs T s r with
      | some v, some l => some (v :: l)
      | _, _ => none
    | none => none

def rv (T : Tm) (s : St) (l : List Rv) : Option V := match rvs T s l with
  | some [v] => some v
  | some l => some (.tup l)
  | none => none

abbrev EvC := C → Tm → St → Option (Ex × Tm × St)

/-- The slots that are handed to a round. -/
def putPs : List Nat → List V → Tm → Option Tm
  | [], [], T => some T
  | p :: ps, v :: vs, T => putPs ps vs (Tr.set T p (some v))
  | _, _, _ => none

def exB : Ex → Bool
  | .normal => true
  | _ => false
def exK : Ex → Nat
  | .normal => 0
  | .ret => 2
  | .exit id => id + 3

abbrev XF := Nat → Option (List V → St → Option (V × St))

/-- A call of a function that is told. -/
def callT (F : Fs) (rec : EvC) (f : Nat) (args : List V) (s : St) : Option (V × St) :=
  match F.f f with
  | some fn => match Nat.ble args.length fn.ntmps with
    | true => match rec fn.body (args0 args 0 (Tr.nil 3)) s with
      | some (.normal, T, s') => match rv T s' fn.results with
        | some v => some (v, s')
        | none => none
      | some (.ret, T, s') => match rv T s' fn.results with
        | some v => some (v, s')
        | none => none
      | _ => none
    | false => none
  | none => none

/-- A call of a function: of one that is told, or of one that is known otherwise. -/
def callFn (F : Fs) (X : XF) (rec : EvC) (f : Nat) (args : List V) (s : St) : Option (V × St) :=
  match X f with
  | some x => x args s
  | none => callT F rec f args s

/-- A round. -/
def callY (F : Fs) (rec : EvC) (l : Nat) (args : List V) (s : St) : Option (V × St) :=
  match s.get l with
  | some (.loop _ T site _) => match F.y site with
    | some rd => match putPs rd.ps args T with
      | some T1 => match rec rd.assign T1 s with
        | some (.normal, T2, s1) => match s1.get l with
          | some (.loop k T3 site3 _) => match Nat.beq k 0 with
            | true => match rec rd.body T2 (s1.write l (.loop 1 T3 site3 s1.ver) none) with
              | some (ex, _, s2) => match s2.get l with
                | some (.loop _ T4 site4 _) => some (.b (exB ex), s2.write l (.loop (exK ex) T4 site4 s2.ver) none)
                | _ => none
              | none => none
            | false => none
          | _ => none
        | _ => none
      | none => none
    | none => none
  | _ => none

def callW (F : Fs) (X : XF) (rec : EvC) : CallF := fun c args s =>
  match c with
  | .f f => callFn F X rec f args s
  | .y l => callY F rec l args s

def exOf : Nat → Ex
  | 0 => .normal
  | 1 => .normal
  | 2 => .ret
  | k + 3 => .exit k

/-- A loop over a function. -/
def evRf (call : Nat → List V → St → Option (V × St)) (g : Opd) (site : Nat) (T : Tm) (s : St) : Option (Ex × Tm × St) :=
  match okNext s with
  | true => match Tm.opd T g with
    | some (.fn f caps) => match call f (.yv s.next :: caps) (s.push (.loop 0 T site s.ver)) with
      | some (_, s') => match s'.get s.next with
        | some (.loop k _ _ _) => match Nat.beq k 1 with
          | true => none
          | false => some (exOf k, T, ⟨s'.h.set s.next none, s'.next, s'.ver⟩)
        | _ => none
      | none => none
    | _ => none
  | false => none

def evStep (F : Fs) (X : XF) (rec : EvC) : EvC := fun c T s =>
  match c with
  | .skip => some (.normal, T, s)
  | .reg l => match evOps (callW F X rec) l T s with
    | some (T', s') => some (.normal, T', s')
    | none => none
  | .dreg l => match evD (callW F X rec) l T s [] [] with
    | some (T', s') => some (.normal, T', s')
    | none => none
  | .seq a b => match rec a T s with
    | some (.normal, T', s') => rec b T' s'
    | r => r
  | .cond c a b => match Tm.opd T c with
    | some (.b true) => rec a T s
    | some (.b false) => rec b T s
    | _ => none
  | .block id a => match rec a T s with
    | some (.exit j, T', s') => match Nat.beq j id with
      | true => some (.normal, T', s')
      | false => some (.exit j, T', s')
    | r => r
  | .loop a => match rec a T s with
    | some (.normal, T', s') => rec (.loop a) T' s'
    | r => r
  | .exit id => some (.exit id, T, s)
  | .ret => some (.ret, T, s)
  | .rf g site => evRf (callT F rec) g site T s
  | .dead => none

def ev (F : Fs) (X : XF) : Nat → EvC
  | 0 => fun _ _ _ => none
  | n + 1 => evStep F X (ev F X n)

/-- A call of a told program's function. -/
def evFn (F : Fs) (X : XF) (n : Nat) : CallF := callW F X (ev F X n)

end Go.Wg
