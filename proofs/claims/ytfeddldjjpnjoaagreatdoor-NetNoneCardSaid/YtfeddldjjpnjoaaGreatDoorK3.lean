/- The quiet instructions for the kernel; no statement of the set is proved here. -/
import Derived.Test.YtfeddldjjpnjoaaGreatDoorK2
namespace Go.Wg
noncomputable section

abbrev Hp := Tr 7 Ob

def opE (T : Tm) (o : Opd) (k : V → Bool) : Bool :=
  Opd.rec (motive := fun _ => Tm → (V → Bool) → Bool) (fun n T k => Option.rec (motive := fun _ => Bool) false k (getE T n)) (fun v _ k => k v) o T k
theorem opE_eq (T : Tm) (o : Opd) (k : V → Bool) : opE T o k = oB (Tm.opd T o) k := by
  cases o with
  | t n => show Option.rec (motive := fun _ => Bool) false k (getE T n) = _; rw [getE_eq]; rfl
  | c v => rfl

/-- An environment for what is told otherwise. -/
def opF (T : Tm) : Env := fun o => Opd.rec (motive := fun _ => Tm → Option V) (fun n T => getE T n) (fun v _ => some v) o T
theorem opF_eq (T : Tm) : opF T = Tm.opd T := by
  funext o
  cases o with
  | t n => exact getE_eq T n
  | c v => rfl
theorem getM_fun (h : Hp) : getM h = fun o => h.get o := funext fun o => getM_eq h o

def opsE (T : Tm) (l : List Opd) : (List V → Bool) → Bool :=
  List.rec (motive := fun _ => (List V → Bool) → Bool) (fun k => k []) (fun x _ ih k => opE T x fun v => ih fun r => k (v :: r)) l
theorem opsE_eq (T : Tm) : ∀ (l : List Opd) (k : List V → Bool), opsE T l k = oB (evL (Tm.opd T) l) k
  | [], _ => rfl
  | x :: l, k => by
    show opE T x (fun v => opsE T l fun r => k (v :: r)) = _
    rw [opE_eq]
    simp only [evL]
    cases Tm.opd T x with
    | none => rfl
    | some v =>
      rw [oB_some, opsE_eq T l]
      cases evL (Tm.opd T) l <;> rfl

/-! Lists. -/
def nthE {α : Type} (n : Nat) : List α → (α → Bool) → Bool :=
  Nat.rec (motive := fun _ => List α → (α → Bool) → Bool) (fun l k => List.rec (motive := fun _ => Bool) false (fun a _ _ => k a) l) (fun _ ih l k => List.rec (motive := fun _ => Bool) false (fun _ r _ => ih r k) l) n
theorem nthE_eq {α : Type} : ∀ (n : Nat) (l : List α) (k : α → Bool), nthE n l k = oB l[n]? k
  | 0, [], _ => rfl
  | 0, _ :: _, _ => rfl
  | n + 1, [], _ => rfl
  | n + 1, _ :: r, k => by
    show nthE n r k = _
    rw [nthE_eq n r k, List.getElem?_cons_succ]
def dropE {α : Type} (n : Nat) : List α → (List α → Bool) → Bool :=
  Nat.rec (motive := fun _ => List α → (List α → Bool) → Bool) (fun l k => k l) (fun _ ih l k => List.rec (motive := fun _ => Bool) false (fun _ r _ => ih r k) l) n
theorem dropE_eq {α : Type} : ∀ (n : Nat) (l : List α) (k : List α → Bool), dropE n l k = bB (Nat.ble n l.length) (k (l.drop n)) false
  | 0, _, _ => by rw [show Nat.ble 0 _ = true from Nat.ble_eq_true_of_le (Nat.zero_le _)]; rfl
  | n + 1, [], _ => rfl
  | n + 1, _ :: r, k => (dropE_eq n r k).trans rfl
def takeE {α : Type} (n : Nat) : List α → (List α → Bool) → Bool :=
  Nat.rec (motive := fun _ => List α → (List α → Bool) → Bool) (fun _ k => k []) (fun _ ih l k => List.rec (motive := fun _ => Bool) false (fun a r _ => ih r fun t => k (a :: t)) l) n
theorem takeE_eq {α : Type} : ∀ (n : Nat) (l : List α) (k : List α → Bool), takeE n l k = bB (Nat.ble n l.length) (k (l.take n)) false
  | 0, _, _ => by rw [show Nat.ble 0 _ = true from Nat.ble_eq_true_of_le (Nat.zero_le _)]; rfl
  | n + 1, [], _ => rfl
  | n + 1, a :: r, k => (takeE_eq n r fun t => k (a :: t)).trans rfl
def segE {α : Type} (off n : Nat) (l : List α) (k : List α → Bool) : Bool := dropE off l fun r => takeE n r k
theorem segE_eq {α : Type} (off n : Nat) (l : List α) (k : List α → Bool) : segE off n l k = bB (Nat.ble (off + n) l.length) (k ((l.drop off).take n)) false := by
  rw [segE, dropE_eq, takeE_eq, List.length_drop]
  by_cases h : off + n ≤ l.length
  · rw [Nat.ble_eq_true_of_le h, Nat.ble_eq_true_of_le (show off ≤ l.length by omega), Nat.ble_eq_true_of_le (show n ≤ l.length - off by omega)]; rfl
  · have h1 : Nat.ble (off + n) l.length = false := by
      cases e : Nat.ble (off + n) l.length with
      | false => rfl
      | true => exact absurd (Nat.le_of_ble_eq_true e) h
    rw [h1, bB_false]
    cases e : Nat.ble off l.length with
    | false => rfl
    | true =>
      have h2 := Nat.le_of_ble_eq_true e
      have h3 : Nat.ble n (l.length - off) = false := by
        cases e' : Nat.ble n (l.length - off) with
        | false => rfl
        | true => have := Nat.le_of_ble_eq_true e'; omega
      rw [h3]; rfl
def tail16 (l : List V) : List V := List.rec (motive := fun _ => List V) [] (fun _ l _ => List.rec (motive := fun _ => List V) [] (fun _ l _ => List.rec (motive := fun _ => List V) [] (fun _ l _ => List.rec (motive := fun _ => List V) [] (fun _ l _ => List.rec (motive := fun _ => List V) [] (fun _ l _ => List.rec (motive := fun _ => List V) [] (fun _ l _ => List.rec (motive := fun _ => List V) [] (fun _ l _ => List.rec (motive := fun _ => List V) [] (fun _ l _ => List.rec (motive := fun _ => List V) [] (fun _ l _ => List.rec (motive := fun _ => List V) [] (fun _ l _ => List.rec (motive := fun _ => List V) [] (fun _ l _ => List.rec (motive := fun _ => List V) [] (fun _ l _ => List.rec (motive := fun _ => List V) [] (fun _ l _ => List.rec (motive := fun _ => List V) [] (fun _ l _ => List.rec (motive := fun _ => List V) [] (fun _ l _ => List.rec (motive := fun _ => List V) [] (fun _ l _ => l) l) l) l) l) l) l) l) l) l) l) l) l) l) l) l) l
theorem tail16_eq : ∀ l : List V, tail16 l = l.drop 16
  | [] => rfl
  | [_] => rfl
  | [_, _] => rfl
  | [_, _, _] => rfl
  | [_, _, _, _] => rfl
  | [_, _, _, _, _] => rfl
  | [_, _, _, _, _, _] => rfl
  | [_, _, _, _, _, _, _] => rfl
  | [_, _, _, _, _, _, _, _] => rfl
  | [_, _, _, _, _, _, _, _, _] => rfl
  | [_, _, _, _, _, _, _, _, _, _] => rfl
  | [_, _, _, _, _, _, _, _, _, _, _] => rfl
  | [_, _, _, _, _, _, _, _, _, _, _, _] => rfl
  | [_, _, _, _, _, _, _, _, _, _, _, _, _] => rfl
  | [_, _, _, _, _, _, _, _, _, _, _, _, _, _] => rfl
  | [_, _, _, _, _, _, _, _, _, _, _, _, _, _, _] => rfl
  | _ :: _ :: _ :: _ :: _ :: _ :: _ :: _ :: _ :: _ :: _ :: _ :: _ :: _ :: _ :: _ :: _ => rfl
def drop16 (q : Nat) (l : List V) : List V := Nat.rec (motive := fun _ => List V) l (fun _ ih => tail16 ih) q
theorem drop16_eq (l : List V) : ∀ q : Nat, drop16 q l = l.drop (16 * q)
  | 0 => rfl
  | q + 1 => by
    show tail16 (drop16 q l) = _
    rw [drop16_eq l q, tail16_eq, List.drop_drop]; rfl
def tailN (n : Nat) : List V → List V := Nat.rec (motive := fun _ => List V → List V) (fun l => l) (fun _ ih l => List.rec (motive := fun _ => List V) [] (fun _ t _ => ih t) l) n
theorem tailN_eq : ∀ (n : Nat) (l : List V), tailN n l = l.drop n
  | 0, _ => rfl
  | _ + 1, [] => rfl
  | n + 1, _ :: r => tailN_eq n r
def dropF (n : Nat) (l : List V) : List V := tailN (Nat.mod n 16) (drop16 (Nat.div n 16) l)
theorem dropF_eq (n : Nat) (l : List V) : dropF n l = l.drop n := by
  rw [dropF, tailN_eq, drop16_eq, List.drop_drop]
  congr 1
  show 16 * (n / 16) + n % 16 = n
  omega
def nthF (n : Nat) (l : List V) (k : V → Bool) : Bool := List.rec (motive := fun _ => Bool) false (fun a _ _ => k a) (dropF n l)
theorem nthF_eq (n : Nat) (l : List V) (k : V → Bool) : nthF n l k = oB l[n]? k := by
  rw [nthF, dropF_eq, ← List.head?_drop]
  cases l.drop n <;> rfl
def segF (off n : Nat) (l : List V) (k : List V → Bool) : Bool := Nat.rec (motive := fun _ => Bool) (segE off n l k) (fun _ _ => takeE n (dropF off l) k) n
theorem segF_eq (off n : Nat) (l : List V) (k : List V → Bool) : segF off n l k = bB (Nat.ble (off + n) l.length) (k ((l.drop off).take n)) false := by
  cases n with
  | zero => exact segE_eq off 0 l k
  | succ n =>
    show takeE (n + 1) (dropF off l) k = _
    rw [takeE_eq, dropF_eq, List.length_drop]
    have e : Nat.ble (n + 1) (l.length - off) = Nat.ble (off + (n + 1)) l.length := by
      rw [Bool.eq_iff_iff, Nat.ble_eq, Nat.ble_eq]; omega
    rw [e]
def lenE {α : Type} (l : List α) : Nat → (Nat → Bool) → Bool :=
  List.rec (motive := fun _ => Nat → (Nat → Bool) → Bool) (fun a k => k a) (fun _ _ ih a k => fNat (Nat.succ a) fun a => ih a k) l
theorem lenE_eq {α : Type} : ∀ (l : List α) (a : Nat) (k : Nat → Bool), lenE l a k = k (a + l.length)
  | [], _, _ => rfl
  | _ :: r, a, k => by
    show fNat (Nat.succ a) (fun a => lenE r a k) = _
    rw [fNat_eq, lenE_eq r, List.length_cons]; congr 1; omega

/-! Whole numbers. -/
def isNat (i : Int) (k : Nat → Bool) (d : Bool) : Bool := Int.rec (motive := fun _ => (Nat → Bool) → Bool → Bool) (fun n k _ => k n) (fun _ _ d => d) i k d
def mxK (a : IntKind) : Nat := IntKind.rec (motive := fun _ => Nat) 127 32767 2147483647 9223372036854775807 255 65535 4294967295 18446744073709551615 a
theorem wrap_mx {kd : IntKind} {n : Nat} (h : Nat.ble n (mxK kd) = true) : kd.wrap (Int.ofNat n) = Int.ofNat n := by
  have h' := Nat.le_of_ble_eq_true h
  have e : (Int.ofNat n) = (n : Int) := rfl
  rw [e]
  have p8 : (2 : Int) ^ 8 = 256 := rfl
  have p16 : (2 : Int) ^ 16 = 65536 := rfl
  have p32 : (2 : Int) ^ 32 = 4294967296 := rfl
  have p64 : (2 : Int) ^ 64 = 18446744073709551616 := rfl
  have q8 : (2 : Int) ^ (8 - 1) = 128 := rfl
  have q16 : (2 : Int) ^ (16 - 1) = 32768 := rfl
  have q32 : (2 : Int) ^ (32 - 1) = 2147483648 := rfl
  have q64 : (2 : Int) ^ (64 - 1) = 9223372036854775808 := rfl
  cases kd <;> simp only [mxK] at h' <;> simp only [IntKind.wrap, IntKind.bits, IntKind.signed, p8, p16, p32, p64, q8, q16, q32, q64, Bool.true_and, Bool.false_and, Bool.false_eq_true, if_false, decide_eq_true_eq, ge_iff_le] <;> first | omega | (split <;> omega)
def wrapE (kd : IntKind) (n : Nat) (k : V → Bool) : Bool :=
  fNat n fun n => bB (Nat.ble n (mxK kd)) (k (.i kd (.ofNat n))) (fInt (kd.wrap (.ofNat n)) fun n => k (.i kd n))
theorem wrapE_eq (kd : IntKind) (n : Nat) (k : V → Bool) : wrapE kd n k = k (.i kd (kd.wrap (.ofNat n))) := by
  rw [wrapE, fNat_eq]
  cases h : Nat.ble n (mxK kd) with
  | true => rw [bB_true, wrap_mx h]
  | false => rw [bB_false, fInt_eq]
def wrapI (kd : IntKind) (n : Int) (k : V → Bool) : Bool := isNat n (fun n => wrapE kd n k) (fInt (kd.wrap n) fun n => k (.i kd n))
theorem wrapI_eq (kd : IntKind) (n : Int) (k : V → Bool) : wrapI kd n k = k (.i kd (kd.wrap n)) := by
  cases n with
  | ofNat n => exact wrapE_eq kd n k
  | negSucc n => exact fInt_eq (kd.wrap (.negSucc n)) fun n => k (.i kd n)
def kEq (a b : IntKind) : Bool := decide (a = b)


/-! Operations on whole numbers. -/
abbrev IOp := IntKind → IntKind → Int → Int → (V → Bool) → Bool
def iSlow (op : BinOp) : IOp := fun kd kd' a b k => fOV (vbin op (.i kd a) (.i kd' b)) k
def iNat (op : BinOp) (f : IntKind → Nat → Nat → (V → Bool) → Bool → Bool) : IOp := fun kd kd' a b k =>
  bB (kEq kd kd') (isNat a (fun m => isNat b (fun n => f kd m n k (iSlow op kd kd' a b k)) (iSlow op kd kd' a b k)) (iSlow op kd kd' a b k)) (iSlow op kd kd' a b k)
def IOk (op : BinOp) (f : IOp) : Prop := ∀ kd kd' a b k, f kd kd' a b k = oB (vbin op (.i kd a) (.i kd' b)) k
theorem iSlow_ok (op : BinOp) : IOk op (iSlow op) := fun _ _ _ _ _ => fOV_eq _ _
theorem iNat_ok (op : BinOp) (f : IntKind → Nat → Nat → (V → Bool) → Bool → Bool)
    (h : ∀ kd m n k d, d = oB (vbin op (.i kd (.ofNat m)) (.i kd (.ofNat n))) k → f kd m n k d = oB (vbin op (.i kd (.ofNat m)) (.i kd (.ofNat n))) k) : IOk op (iNat op f) := by
  intro kd kd' a b k
  unfold iNat
  cases e : kEq kd kd' with
  | false => exact iSlow_ok op _ _ _ _ _
  | true =>
    have e' : kd = kd' := of_decide_eq_true e
    subst e'
    rw [bB_true]
    cases a with
    | negSucc m => exact iSlow_ok op _ _ _ _ _
    | ofNat m =>
      cases b with
      | negSucc n => exact iSlow_ok op _ _ _ _ _
      | ofNat n => exact h kd m n k _ (iSlow_ok op _ _ _ _ _)
theorem vbin_i {op : BinOp} (h1 : op ≠ .shl) (h2 : op ≠ .shr) (kd : IntKind) (a b : Int) : vbin op (.i kd a) (.i kd b) = intBin op kd a b := by
  cases op <;> first | exact absurd rfl h1 | exact absurd rfl h2 | simp [vbin]
def kB (b : Bool) (k : V → Bool) : Bool := fBool b fun b => k (.b b)
theorem kB_eq (b : Bool) (k : V → Bool) : kB b k = k (.b b) := fBool_eq _ _

def iAdd : IOp := iNat .add fun kd m n k _ => wrapE kd (Nat.add m n) k
theorem iAdd_ok : IOk .add iAdd := iNat_ok _ _ fun kd m n k d _ => by
  rw [wrapE_eq, vbin_i (by decide) (by decide)]; rfl
def iMul : IOp := iNat .mul fun kd m n k _ => wrapE kd (Nat.mul m n) k
theorem iMul_ok : IOk .mul iMul := iNat_ok _ _ fun kd m n k d _ => by
  rw [wrapE_eq, vbin_i (by decide) (by decide)]; rfl
def iSub : IOp := iNat .sub fun kd m n k d => bB (Nat.ble n m) (wrapE kd (Nat.sub m n) k) d
theorem iSub_ok : IOk .sub iSub := iNat_ok _ _ fun kd m n k d hd => by
  cases h : Nat.ble n m with
  | false => exact hd
  | true =>
    rw [bB_true, wrapE_eq, vbin_i (by decide) (by decide)]
    have h' := Nat.le_of_ble_eq_true h
    show k _ = k _
    congr 3
    show ((m - n : Nat) : Int) = (m : Int) - (n : Int)
    omega
def iQuo : IOp := iNat .quo fun kd m n k _ => bB (Nat.beq n 0) false (wrapE kd (Nat.div m n) k)
theorem iQuo_ok : IOk .quo iQuo := iNat_ok _ _ fun kd m n k d _ => by
  rw [wrapE_eq, vbin_i (by decide) (by decide)]
  cases n with
  | zero => rfl
  | succ n => rfl
def iRem : IOp := iNat .rem fun kd m n k _ => bB (Nat.beq n 0) false (fNat (Nat.mod m n) fun r => k (.i kd (.ofNat r)))
theorem iRem_ok : IOk .rem iRem := iNat_ok _ _ fun kd m n k d _ => by
  rw [fNat_eq, vbin_i (by decide) (by decide)]
  cases n with
  | zero => rfl
  | succ n => rfl
def iEql : IOp := iNat .eql fun _ m n k _ => kB (Nat.beq m n) k
theorem ofNat_beq (m n : Nat) : decide (Int.ofNat m = Int.ofNat n) = Nat.beq m n := by
  rw [Bool.eq_iff_iff, decide_eq_true_iff, Nat.beq_eq]
  exact ⟨fun h => Int.ofNat.inj h, fun h => by rw [h]⟩
theorem iEql_ok : IOk .eql iEql := iNat_ok _ _ fun kd m n k d _ => by
  rw [kB_eq, vbin_i (by decide) (by decide)]
  show _ = k (.b (decide (Int.ofNat m = Int.ofNat n)))
  rw [ofNat_beq]
def iNeq : IOp := iNat .neq fun _ m n k _ => kB (not (Nat.beq m n)) k
theorem iNeq_ok : IOk .neq iNeq := iNat_ok _ _ fun kd m n k d _ => by
  rw [kB_eq, vbin_i (by decide) (by decide)]
  show _ = k (.b (!decide (Int.ofNat m = Int.ofNat n)))
  rw [ofNat_beq]
theorem ofNat_blt (m n : Nat) : decide (Int.ofNat m < Int.ofNat n) = Nat.blt m n := by
  rw [Bool.eq_iff_iff, decide_eq_true_iff, Tr.blt_iff]; exact Int.ofNat_lt
theorem ofNat_ble (m n : Nat) : decide (Int.ofNat m ≤ Int.ofNat n) = Nat.ble m n := by
  rw [Bool.eq_iff_iff, decide_eq_true_iff, Nat.ble_eq]; exact Int.ofNat_le
def iLss : IOp := iNat .lss fun _ m n k _ => kB (Nat.blt m n) k
theorem iLss_ok : IOk .lss iLss := iNat_ok _ _ fun kd m n k d _ => by
  rw [kB_eq, vbin_i (by decide) (by decide)]
  show _ = k (.b (decide (Int.ofNat m < Int.ofNat n)))
  rw [ofNat_blt]
def iLeq : IOp := iNat .leq fun _ m n k _ => kB (Nat.ble m n) k
theorem iLeq_ok : IOk .leq iLeq := iNat_ok _ _ fun kd m n k d _ => by
  rw [kB_eq, vbin_i (by decide) (by decide)]
  show _ = k (.b (decide (Int.ofNat m ≤ Int.ofNat n)))
  rw [ofNat_ble]
def iGtr : IOp := iNat .gtr fun _ m n k _ => kB (Nat.blt n m) k
theorem iGtr_ok : IOk .gtr iGtr := iNat_ok _ _ fun kd m n k d _ => by
  rw [kB_eq, vbin_i (by decide) (by decide)]
  show _ = k (.b (decide (Int.ofNat n < Int.ofNat m)))
  rw [ofNat_blt]
def iGeq : IOp := iNat .geq fun _ m n k _ => kB (Nat.ble n m) k
theorem iGeq_ok : IOk .geq iGeq := iNat_ok _ _ fun kd m n k d _ => by
  rw [kB_eq, vbin_i (by decide) (by decide)]
  show _ = k (.b (decide (Int.ofNat n ≤ Int.ofNat m)))
  rw [ofNat_ble]
/-- Shifts: the kinds need not be the same. -/
def iShl : IOp := fun kd kd' a b k => isNat a (fun m => isNat b (fun n => bB (Nat.ble n 64) (fNat (IntKind.bits kd) fun z => wrapE kd (Nat.mul m (Nat.pow 2 (Nat.min n z))) k) (iSlow .shl kd kd' a b k)) (iSlow .shl kd kd' a b k)) (iSlow .shl kd kd' a b k)
theorem iShl_ok : IOk .shl iShl := by
  intro kd kd' a b k
  unfold iShl
  cases a with
  | negSucc m => exact iSlow_ok _ _ _ _ _ _
  | ofNat m =>
    cases b with
    | negSucc n => exact iSlow_ok _ _ _ _ _ _
    | ofNat n =>
      show bB (Nat.ble n 64) _ _ = _
      cases h : Nat.ble n 64 with
      | false => exact iSlow_ok _ _ _ _ _ _
      | true =>
        rw [bB_true, fNat_eq, wrapE_eq]
        have e : vshift .shl kd (Int.ofNat m) (Int.ofNat n) = some (.i kd (kd.wrap (Int.ofNat m * 2 ^ min (Int.ofNat n).toNat kd.bits))) := by
          unfold vshift
          rw [show decide (Int.ofNat n < 0) = false from decide_eq_false (by exact Int.not_lt.2 (Int.natCast_nonneg n))]
        show _ = oB (vshift .shl kd (Int.ofNat m) (Int.ofNat n)) k
        rw [e, oB_some]
        have e3 : Int.ofNat (Nat.mul m (Nat.pow 2 (Nat.min n kd.bits))) = Int.ofNat m * 2 ^ min (Int.ofNat n).toNat kd.bits := by
          show ((m * 2 ^ (Nat.min n kd.bits) : Nat) : Int) = (m : Int) * 2 ^ (min n kd.bits)
          rw [Int.natCast_mul, Int.natCast_pow]
          rfl
        rw [e3]
def iShr : IOp := fun kd kd' a b k => isNat a (fun m => isNat b (fun n => bB (Nat.ble n 64) (fNat (IntKind.bits kd) fun z => fNat (Nat.div m (Nat.pow 2 (Nat.min n z))) fun r => k (.i kd (.ofNat r))) (iSlow .shr kd kd' a b k)) (iSlow .shr kd kd' a b k)) (iSlow .shr kd kd' a b k)
theorem iShr_ok : IOk .shr iShr := by
  intro kd kd' a b k
  unfold iShr
  cases a with
  | negSucc m => exact iSlow_ok _ _ _ _ _ _
  | ofNat m =>
    cases b with
    | negSucc n => exact iSlow_ok _ _ _ _ _ _
    | ofNat n =>
      show bB (Nat.ble n 64) _ _ = _
      cases h : Nat.ble n 64 with
      | false => exact iSlow_ok _ _ _ _ _ _
      | true =>
        rw [bB_true, fNat_eq, fNat_eq]
        have e : vshift .shr kd (Int.ofNat m) (Int.ofNat n) = some (.i kd ((Int.ofNat m).fdiv (2 ^ min (Int.ofNat n).toNat kd.bits))) := by
          unfold vshift
          rw [show decide (Int.ofNat n < 0) = false from decide_eq_false (by exact Int.not_lt.2 (Int.natCast_nonneg n))]
        show _ = oB (vshift .shr kd (Int.ofNat m) (Int.ofNat n)) k
        rw [e, oB_some]
        congr 2
        show ((m / 2 ^ (Nat.min n kd.bits) : Nat) : Int) = (m : Int).fdiv (2 ^ (min n kd.bits))
        have e2 : ((2 : Int) ^ (min n kd.bits)) = ((2 ^ (Nat.min n kd.bits) : Nat) : Int) := by rw [Int.natCast_pow]; rfl
        rw [e2, Int.fdiv_eq_ediv_of_nonneg _ (Int.natCast_nonneg _), Int.natCast_ediv]

def intE (op : BinOp) : IOp := BinOp.rec (motive := fun _ => IOp) iAdd iSub iMul iQuo iRem (iSlow .and) (iSlow .or) (iSlow .xor) iShl iShr (iSlow .andNot) iEql iNeq iLss iLeq iGtr iGeq op
theorem intE_ok (op : BinOp) : IOk op (intE op) := by
  cases op
  · exact iAdd_ok
  · exact iSub_ok
  · exact iMul_ok
  · exact iQuo_ok
  · exact iRem_ok
  · exact iSlow_ok _
  · exact iSlow_ok _
  · exact iSlow_ok _
  · exact iShl_ok
  · exact iShr_ok
  · exact iSlow_ok _
  · exact iEql_ok
  · exact iNeq_ok
  · exact iLss_ok
  · exact iLeq_ok
  · exact iGtr_ok
  · exact iGeq_ok
def binE (op : BinOp) (x y : V) (k : V → Bool) : Bool := is_i x (fun kd a => is_i y (fun kd' b => intE op kd kd' a b k) (fOV (vbin op x y) k)) (fOV (vbin op x y) k)
theorem binE_eq (op : BinOp) (x y : V) (k : V → Bool) : binE op x y k = oB (vbin op x y) k := by
  unfold binE
  cases x with
  | i kd a =>
    cases y with
    | i kd' b => exact intE_ok op kd kd' a b k
    | _ => exact Eq.trans (by rfl) (fOV_eq (vbin op _ _) k)
  | _ => exact Eq.trans (by rfl) (fOV_eq (vbin op _ _) k)

/-! The quiet instructions. -/
abbrev QE := Tm → Hp → (V → Bool) → Bool
def qSlow (q : Q) : QE := fun T h k => fOV (evQ (opF T) (getM h) q) k
def QOk (q : Q) (f : QE) : Prop := ∀ T h k, f T h k = oB (evQ (Tm.opd T) (fun o => h.get o) q) k
theorem qSlow_ok (q : Q) : QOk q (qSlow q) := fun T h k => by
  unfold qSlow
  rw [fOV_eq, opF_eq, getM_fun]
theorem oB_ev1 (e : Env) (x : Opd) (f : V → Option V) (k : V → Bool) : oB (ev1 e x f) k = oB (e x) fun v => oB (f v) k := by
  unfold ev1; cases e x <;> rfl
theorem oB_ev2 (e : Env) (x y : Opd) (f : V → V → Option V) (k : V → Bool) : oB (ev2 e x y f) k = oB (e x) fun u => oB (e y) fun v => oB (f u v) k := by
  unfold ev2; cases e x <;> cases e y <;> rfl
/-- One operand. -/
def q1 (f : Hp → V → (V → Bool) → Bool) (x : Opd) : QE := fun T h k => opE T x fun v => f h v k
theorem q1_ok {q : Q} {x : Opd} {f : Hp → V → (V → Bool) → Bool} (g : Get → V → Option V) (hq : ∀ e s, evQ e s q = ev1 e x (g s)) (h : ∀ h v k, f h v k = oB (g (fun o => h.get o) v) k) : QOk q (q1 f x) := by
  intro T hp k
  unfold q1
  rw [opE_eq, hq, oB_ev1]
  cases Tm.opd T x with
  | none => rfl
  | some v => exact h hp v k
def q2 (f : V → V → (V → Bool) → Bool) (x y : Opd) : QE := fun T _ k => opE T x fun u => opE T y fun v => f u v k
theorem q2_ok {q : Q} {x y : Opd} {f : V → V → (V → Bool) → Bool} (g : V → V → Option V) (hq : ∀ e s, evQ e s q = ev2 e x y g) (h : ∀ u v k, f u v k = oB (g u v) k) : QOk q (q2 f x y) := by
  intro T hp k
  unfold q2
  rw [opE_eq, hq, oB_ev2]
  cases Tm.opd T x with
  | none => rfl
  | some u =>
    rw [oB_some, oB_some, opE_eq]
    cases Tm.opd T y with
    | none => rfl
    | some v => exact h u v k

def qMov (x : Opd) : QE := fun T _ k => opE T x k
theorem qMov_ok (x : Opd) : QOk (.mov x) (qMov x) := fun T h k => opE_eq T x k
def qPick (c a b : Opd) : QE := fun T _ k => opE T c fun v => is_b v (fun c => bB c (opE T a k) (opE T b k)) false
theorem qPick_ok (c a b : Opd) : QOk (.pick c a b) (qPick c a b) := fun T h k => by
  unfold qPick
  simp only [opE_eq, evQ]
  cases Tm.opd T c with
  | none => rfl
  | some v =>
    cases v with
    | b x => cases x <;> rfl
    | _ => rfl

def rowE (h : Hp) (o : Nat) (k : List V → Bool) : Bool :=
  Option.rec (motive := fun _ => (List V → Bool) → Bool) (fun _ => false) (fun ob => Ob.rec (motive := fun _ => (List V → Bool) → Bool) (fun cells _ _ _ k => k cells) (fun _ _ _ => false) (fun _ _ _ _ _ => false) ob) (getM h o) k
theorem rowE_eq (h : Hp) (o : Nat) (k : List V → Bool) : rowE h o k = match h.get o with
    | some (.row cells _ _ _) => k cells
    | _ => false := by
  unfold rowE
  rw [getM_eq]
  cases h.get o with
  | none => rfl
  | some ob => cases ob <;> rfl
def ld1E (h : Hp) (v : V) (k : V → Bool) : Bool := is_p v (fun o off => rowE h o fun cells => nthF off cells k) false
theorem ld1E_eq (h : Hp) (v : V) (k : V → Bool) : ld1E h v k = oB (vld1 (fun o => h.get o) v) k := by
  unfold ld1E
  cases v with
  | p o off =>
    show rowE h o _ = _
    rw [rowE_eq]
    simp only [vld1]
    cases h.get o with
    | none => rfl
    | some ob => cases ob <;> first | rfl | exact nthF_eq _ _ _
  | _ => rfl
def ldnE (n : Nat) (h : Hp) (v : V) (k : V → Bool) : Bool := is_p v (fun o off => rowE h o fun cells => segF off n cells fun l => k (.agg l)) false
theorem ldnE_eq (n : Nat) (h : Hp) (v : V) (k : V → Bool) : ldnE n h v k = oB (vldn n (fun o => h.get o) v) k := by
  unfold ldnE
  cases v with
  | p o off =>
    show rowE h o _ = _
    rw [rowE_eq]
    simp only [vldn]
    cases h.get o with
    | none => rfl
    | some ob =>
      cases ob with
      | row cells a b c =>
        show segF _ _ _ _ = _
        rw [segF_eq]
        dsimp only
        cases Nat.ble (off + n) cells.length <;> rfl
      | _ => rfl
  | _ => rfl
def nckE (v : V) (k : V → Bool) : Bool := nilP v false (k v)
theorem nckE_eq (v : V) (k : V → Bool) : nckE v k = oB (vnck v) k := by cases v <;> rfl
def faE (off : Nat) (v : V) (k : V → Bool) : Bool := is_p v (fun o a => fNat (Nat.add a off) fun a => k (.p o a)) false
theorem faE_eq (off : Nat) (v : V) (k : V → Bool) : faE off v k = oB (vfa off v) k := by
  cases v with
  | p o a => exact fNat_eq (Nat.add a off) fun a => k (.p o a)
  | _ => rfl
def partE (off : Nat) (n : Option Nat) (v : V) (k : V → Bool) : Bool :=
  is_agg v (fun l => Option.rec (motive := fun _ => List V → Nat → (V → Bool) → Bool) (fun l off k => nthE off l k) (fun n l off k => segE off n l fun r => k (.agg r)) n l off k) false
theorem partE_eq (off : Nat) (n : Option Nat) (v : V) (k : V → Bool) : partE off n v k = oB (vpart off n v) k := by
  cases v with
  | agg l =>
    cases n with
    | none => exact nthE_eq _ _ _
    | some n =>
      show segE _ _ _ _ = _
      rw [segE_eq]
      simp only [vpart]
      cases Nat.ble (off + n) l.length <;> rfl
  | _ => rfl
theorem nn (m : Nat) : decide (0 ≤ Int.ofNat m) = true := decide_eq_true (Int.natCast_nonneg m)
theorem neg (m : Nat) : decide (0 ≤ Int.negSucc m) = false := decide_eq_false (by omega)
def iaE (esz : Nat) (u v : V) (k : V → Bool) : Bool :=
  is_sl u (fun o off len _ _ => is_i v (fun _ n => isNat n (fun m => bB (Nat.blt m len) (fNat (Nat.add off (Nat.mul m esz)) fun a => k (.p o a)) false) false) false) false
theorem iaE_eq (esz : Nat) (u v : V) (k : V → Bool) : iaE esz u v k = oB (via esz u v) k := by
  cases u with
  | sl o off len cap z =>
    cases v with
    | i kd n =>
      cases n with
      | ofNat m =>
        show bB (Nat.blt m len) _ _ = _
        simp only [via, nn]
        rw [show decide (Int.ofNat m < (len : Int)) = Nat.blt m len from ofNat_blt m len]
        cases Nat.blt m len with
        | true => exact fNat_eq (Nat.add off (Nat.mul m esz)) fun a => k (.p o a)
        | false => rfl
      | negSucc m =>
        simp only [via, neg]; rfl
    | _ => rfl
  | _ => rfl
def iaaE (len esz : Nat) (u v : V) (k : V → Bool) : Bool :=
  is_p u (fun o off => is_i v (fun _ n => isNat n (fun m => bB (Nat.blt m len) (fNat (Nat.add off (Nat.mul m esz)) fun a => k (.p o a)) false) false) false) false
theorem iaaE_eq (len esz : Nat) (u v : V) (k : V → Bool) : iaaE len esz u v k = oB (viaa len esz u v) k := by
  cases u with
  | p o off =>
    cases v with
    | i kd n =>
      cases n with
      | ofNat m =>
        show bB (Nat.blt m len) _ _ = _
        simp only [viaa, nn]
        rw [show decide (Int.ofNat m < (len : Int)) = Nat.blt m len from ofNat_blt m len]
        cases Nat.blt m len with
        | true => exact fNat_eq (Nat.add off (Nat.mul m esz)) fun a => k (.p o a)
        | false => rfl
      | negSucc m =>
        simp only [viaa, neg]; rfl
    | _ => rfl
  | _ => rfl
def ixaE (len esz : Nat) (n : Option Nat) (u v : V) (k : V → Bool) : Bool :=
  is_i v (fun _ j => isNat j (fun m => bB (Nat.blt m len) (fNat (Nat.mul m esz) fun a => partE a n u k) false) false) false
theorem ixaE_eq (len esz : Nat) (n : Option Nat) (u v : V) (k : V → Bool) : ixaE len esz n u v k = oB (vixa len esz n u v) k := by
  cases v with
  | i kd j =>
    cases j with
    | ofNat m =>
      show bB (Nat.blt m len) _ _ = _
      simp only [vixa, nn]
      rw [show decide (Int.ofNat m < (len : Int)) = Nat.blt m len from ofNat_blt m len]
      cases Nat.blt m len with
      | true => rw [bB_true, fNat_eq]; exact partE_eq _ _ _ _
      | false => rfl
    | negSucc m => simp only [vixa, neg]; rfl
  | _ => rfl
def ixsE (u v : V) (k : V → Bool) : Bool :=
  is_s u (fun s => is_i v (fun _ n => isNat n (fun m => nthE m s.data.toList fun b => fNat b.toNat fun n => k (.i .u8 (.ofNat n))) false) false) false
theorem ixsE_eq (u v : V) (k : V → Bool) : ixsE u v k = oB (vixs u v) k := by
  cases u with
  | s b =>
    cases v with
    | i kd n =>
      cases n with
      | ofNat m =>
        show nthE m b.data.toList _ = _
        rw [nthE_eq]
        simp only [vixs, nn]
        have e : b[(Int.ofNat m).toNat]? = b.data.toList[m]? := by
          show b[m]? = _
          by_cases hm : m < b.size
          · have hm' : m < b.data.toList.length := hm
            rw [getElem?_pos b m hm, List.getElem?_eq_getElem hm']; rfl
          · have hm' : ¬ m < b.data.toList.length := hm
            rw [getElem?_neg b m hm, List.getElem?_eq_none (by omega)]
        rw [e]
        cases b.data.toList[m]? with
        | none => rfl
        | some c => exact fNat_eq c.toNat fun n => k (.i .u8 (.ofNat n))
      | negSucc m => simp only [vixs, neg]; rfl
    | _ => rfl
  | _ => rfl
def extE (n : Nat) (v : V) (k : V → Bool) : Bool := is_tup v (fun l => nthE n l k) false
theorem extE_eq (n : Nat) (v : V) (k : V → Bool) : extE n v k = oB (vext n v) k := by
  cases v with
  | tup l => exact nthE_eq _ _ _
  | _ => rfl
def lenLf (v : V) : Option V := match v with
  | .nilsl | .esl _ _ _ => some (.i .i64 0)
  | .sl _ _ n _ _ => some (.i .i64 n)
  | _ => none
theorem lenLE_eq (v : V) (k : V → Bool) : lenLE v k = oB (lenLf v) k := by cases v <;> rfl
def lenSE (v : V) (k : V → Bool) : Bool := is_s v (fun b => lenE b.data.toList 0 fun n => k (.i .i64 (.ofNat n))) false
def lenSf (v : V) : Option V := match v with
  | .s b => some (.i .i64 b.size)
  | _ => none
theorem lenSE_eq (v : V) (k : V → Bool) : lenSE v k = oB (lenSf v) k := by
  cases v with
  | s b =>
    show lenE b.data.toList 0 _ = _
    rw [lenE_eq, Nat.zero_add]; rfl
  | _ => rfl
def cviE (kd : IntKind) (v : V) (k : V → Bool) : Bool := is_i v (fun _ n => wrapI kd n k) false
theorem cviE_eq (kd : IntKind) (v : V) (k : V → Bool) : cviE kd v k = oB (vcvi kd v) k := by
  cases v with
  | i a n => exact wrapI_eq kd n k
  | _ => rfl
def notE (v : V) (k : V → Bool) : Bool := is_b v (fun b => kB (not b) k) false
def unE (op : UnOp) (v : V) (k : V → Bool) : Bool := UnOp.rec (motive := fun _ => V → (V → Bool) → Bool) (fun v k => fOV (vun .neg v) k) (fun v k => fOV (vun .xor v) k) notE (fun v k => fOV (vun .plus v) k) op v k
theorem unE_eq (op : UnOp) (v : V) (k : V → Bool) : unE op v k = oB (vun op v) k := by
  cases op with
  | not =>
    cases v with
    | b x => exact kB_eq (not x) k
    | _ => rfl
  | _ => exact Eq.trans (by rfl) (fOV_eq (vun _ v) k)
def bniE (op : BinOp) (u v : V) (k : V → Bool) : Bool := is_b u (fun _ => false) (binE op u v k)
theorem bniE_eq (op : BinOp) (u v : V) (k : V → Bool) : bniE op u v k = oB (match u with
    | .b _ => none
    | u => vbin op u v) k := by
  cases u with
  | b x => rfl
  | _ => exact Eq.trans (by rfl) (binE_eq op _ v k)

/-- Held against nil. -/
def nkf (kk : RK) (v : V) : Option Bool := match kk, v with
  | .ptr, .nilp => some true
  | .ptr, .p _ _ => some false
  | .sl, .nilsl => some true
  | .sl, .sl _ _ _ _ _ => some false
  | .sl, .esl _ _ _ => some false
  | .mp, .nilm => some true
  | .mp, .m _ => some false
  | .fn, .nilf => some true
  | .fn, .fn _ _ => some false
  | .ifc, .nili => some true
  | .ifc, .ifc _ _ => some false
  | _, _ => none
def nkE (kk : RK) (v : V) (k : Bool → Bool) : Bool := RK.rec (motive := fun _ => V → (Bool → Bool) → Bool) nk_ptr nk_sl nk_mp nk_fn nk_ifc kk v k
theorem nkE_eq (kk : RK) (v : V) (k : Bool → Bool) : nkE kk v k = oB (nkf kk v) k := by cases kk <;> cases v <;> rfl
def both (a b : Option Bool) : Option Bool := match a, b with
  | some true, some b => some b
  | some false, some true => some false
  | _, _ => none
theorem veqr_nk (kk : RK) (x y : V) : veqr kk x y = both (nkf kk x) (nkf kk y) := by
  cases kk <;> cases x <;> first | rfl | (cases y <;> rfl)
def eqrE (neq : Bool) (kk : RK) (u v : V) (k : V → Bool) : Bool := nkE kk u fun a => nkE kk v fun b => bB a (kB (xorB neq b) k) (bB b (kB (xorB neq false) k) false)
theorem eqrE_eq (neq : Bool) (kk : RK) (u v : V) (k : V → Bool) : eqrE neq kk u v k = oB (veqrV neq kk u v) k := by
  unfold eqrE veqrV
  simp only [nkE_eq, veqr_nk]
  cases nkf kk u with
  | none => rfl
  | some a =>
    cases nkf kk v with
    | none => cases a <;> rfl
    | some b => cases a <;> cases b <;> first | rfl | exact kB_eq (xorB neq _) k

def mkfE (f : Nat) (caps : List Opd) : QE := fun T _ k => opsE T caps fun l => k (.fn f l)
theorem mkfE_ok (f : Nat) (caps : List Opd) : QOk (.mkf f caps) (mkfE f caps) := fun T h k => by
  unfold mkfE
  rw [opsE_eq]
  simp only [evQ]
  cases evL (Tm.opd T) caps <;> rfl

/-- Parts put in. -/
def repE (vs : List V) : List V → (List V → Bool) → Bool :=
  List.rec (motive := fun _ => List V → (List V → Bool) → Bool) (fun cells k => k cells) (fun v _ ih cells k => List.rec (motive := fun _ => Bool) false (fun _ r _ => ih r fun t => k (v :: t)) cells) vs
theorem repE_eq : ∀ (vs cells : List V) (k : List V → Bool), repE vs cells k = bB (Nat.ble vs.length cells.length) (k (vs ++ cells.drop vs.length)) false
  | [], cells, k => by
    rw [show Nat.ble ([] : List V).length cells.length = true from Nat.ble_eq_true_of_le (Nat.zero_le _)]; rfl
  | v :: vs, [], k => rfl
  | v :: vs, c :: r, k => (repE_eq vs r fun t => k (v :: t)).trans rfl
def insE (n : Nat) (vs : List V) : List V → (List V → Bool) → Bool :=
  Nat.rec (motive := fun _ => List V → (List V → Bool) → Bool) (fun cells k => repE vs cells k) (fun _ ih cells k => List.rec (motive := fun _ => Bool) false (fun a r _ => ih r fun t => k (a :: t)) cells) n
theorem ble_succ (a b : Nat) : Nat.ble (a + 1) (b + 1) = Nat.ble a b := rfl
theorem insE_eq : ∀ (n : Nat) (vs cells : List V) (k : List V → Bool), insE n vs cells k = bB (Nat.ble (n + vs.length) cells.length) (k (splice cells n vs)) false
  | 0, vs, cells, k => by
    show repE vs cells k = _
    rw [repE_eq, Nat.zero_add]
    simp only [splice, Nat.zero_add, List.take_zero, List.nil_append]
  | n + 1, vs, [], k => by
    rw [show n + 1 + vs.length = (n + vs.length) + 1 by omega]; rfl
  | n + 1, vs, a :: r, k => by
    show insE n vs r (fun t => k (a :: t)) = _
    rw [insE_eq n vs r, show n + 1 + vs.length = (n + vs.length) + 1 by omega, List.length_cons, ble_succ]
    simp only [splice, List.take_succ_cons, List.cons_append, show n + 1 + vs.length = (n + vs.length) + 1 by omega, List.drop_succ_cons]
def cellsE (v : V) (k : List V → Bool) : Bool := is_agg v (fun l => k l) (k [v])
theorem cellsE_eq (v : V) (k : List V → Bool) : cellsE v k = k v.cells := by cases v <;> rfl
def fillE (T : Tm) (p : List (Nat × Nat × Opd)) : List V → (List V → Bool) → Bool :=
  List.rec (motive := fun _ => List V → (List V → Bool) → Bool) (fun cells k => k cells) (fun a _ ih cells k => Prod.rec (motive := fun _ => Bool) (fun off b => Prod.rec (motive := fun _ => Bool) (fun sz x =>
    opE T x fun v => cellsE v fun l => lenE l 0 fun m => bB (Nat.beq m sz) (insE off l cells fun cells => ih cells k) false) b) a) p
theorem fillE_eq (T : Tm) : ∀ (p : List (Nat × Nat × Opd)) (cells : List V) (k : List V → Bool), fillE T p cells k = oB (evP (Tm.opd T) p) fun l => oB (vfill cells l) k
  | [], _, _ => rfl
  | (off, sz, x) :: p, cells, k => by
    show opE T x (fun v => cellsE v fun l => lenE l 0 fun m => bB (Nat.beq m sz) (insE off l cells fun cells => fillE T p cells k) false) = _
    rw [opE_eq]
    simp only [evP]
    cases Tm.opd T x with
    | none => rfl
    | some v =>
      rw [oB_some, cellsE_eq, lenE_eq, Nat.zero_add, insE_eq]
      have ih : ∀ c, fillE T p c k = oB (evP (Tm.opd T) p) fun l => oB (vfill c l) k := fun c => fillE_eq T p c k
      simp only [ih]
      cases hb : Nat.beq v.cells.length sz with
      | false =>
        cases evP (Tm.opd T) p with
        | none => rfl
        | some l => simp only [oB_some, vfill, hb]; rfl
      | true =>
        have hl := Nat.eq_of_beq_eq_true hb
        rw [bB_true, hl]
        cases hc : Nat.ble (off + sz) cells.length with
        | false =>
          cases evP (Tm.opd T) p with
          | none => rfl
          | some l => simp only [oB_some, vfill, hb, hc]; rfl
        | true =>
          cases evP (Tm.opd T) p with
          | none => rfl
          | some l => simp only [bB_true, oB_some, vfill, hb, hc]
def buildE (z : List V) (p : List (Nat × Nat × Opd)) : QE := fun T _ k => fillE T p z fun l => k (.agg l)
theorem buildE_ok (z : List V) (p : List (Nat × Nat × Opd)) : QOk (.build z p) (buildE z p) := fun T h k => by
  unfold buildE
  rw [fillE_eq]
  simp only [evQ]
  cases evP (Tm.opd T) p with
  | none => rfl
  | some l => simp only [oB_some, vbuild]; cases vfill z l <;> rfl

/-- A quiet instruction. -/
def qE (q : Q) : QE := Q.rec (motive := fun _ => QE)
  (qSlow .bad) qMov qPick buildE (fun x => q1 ld1E x) (fun n x => q1 (ldnE n) x) (fun x => q1 (fun _ => nckE) x)
  (fun op x y => q2 (binE op) x y) (fun op x y => q2 (bniE op) x y) (fun neq kk x y => q2 (eqrE neq kk) x y) (fun n l x y => qSlow (.eqs n l x y)) (fun op x => q1 (fun _ => unE op) x)
  (fun kd x => q1 (fun _ => cviE kd) x) (fun x => q1 (fun _ v k => is_s v (fun b => k (.s b)) false) x) (fun x => qSlow (.cbs x)) (fun t x => q1 (fun _ v k => k (.ifc t v)) x) mkfE
  (fun x a b => qSlow (.sls x a b)) (fun z x a b c => qSlow (.sl z x a b c)) (fun n z x a b c => qSlow (.sla n z x a b c)) (fun off x => q1 (fun _ => faE off) x) (fun off n x => q1 (fun _ => partE off n) x)
  (fun z x i => q2 (iaE z) x i) (fun n z x i => q2 (iaaE n z) x i) (fun x i => q2 ixsE x i) (fun n z m x i => q2 (ixaE n z m) x i) (fun k z b x i => qSlow (.lk k z b x i)) (fun n x => q1 (fun _ => extE n) x)
  (fun x => q1 (fun _ => lenSE) x) (fun x => q1 (fun _ => lenLE) x) (fun x => qSlow (.lenM x)) (fun n x => q1 (fun _ _ k => k (.i .i64 (.ofNat n))) x) (fun x => qSlow (.cap x)) (fun x l => qSlow (.mn x l)) (fun x l => qSlow (.mx x l)) q
theorem qE_ok (q : Q) : QOk q (qE q) := by
  cases q with
  | mov x => exact qMov_ok x
  | pick c a b => exact qPick_ok c a b
  | build z p => exact buildE_ok z p
  | ld1 x => exact q1_ok vld1 (fun _ _ => rfl) ld1E_eq
  | ldn n x => exact q1_ok (vldn n) (fun _ _ => rfl) (ldnE_eq n)
  | nck x => exact q1_ok (fun _ => vnck) (fun _ _ => rfl) (fun _ => nckE_eq)
  | bin op x y => exact q2_ok (vbin op) (fun _ _ => rfl) (binE_eq op)
  | bni op x y => exact q2_ok _ (fun _ _ => rfl) (bniE_eq op)
  | eqr neq kk x y => exact q2_ok (veqrV neq kk) (fun _ _ => rfl) (eqrE_eq neq kk)
  | un op x => exact q1_ok (fun _ => vun op) (fun _ _ => rfl) (fun _ => unE_eq op)
  | cvi kd x => exact q1_ok (fun _ => vcvi kd) (fun _ _ => rfl) (fun _ => cviE_eq kd)
  | cvs x => exact q1_ok _ (fun _ _ => rfl) (fun _ v k => by cases v <;> rfl)
  | ifc t x => exact q1_ok (fun _ v => some (.ifc t v)) (fun _ _ => rfl) (fun _ _ _ => rfl)
  | mkf f l => exact mkfE_ok f l
  | fa off x => exact q1_ok (fun _ => vfa off) (fun _ _ => rfl) (fun _ => faE_eq off)
  | fld off n x => exact q1_ok (fun _ => vpart off n) (fun _ _ => rfl) (fun _ => partE_eq off n)
  | ia z x i => exact q2_ok (via z) (fun _ _ => rfl) (iaE_eq z)
  | iaa n z x i => exact q2_ok (viaa n z) (fun _ _ => rfl) (iaaE_eq n z)
  | ixs x i => exact q2_ok vixs (fun _ _ => rfl) ixsE_eq
  | ixa n z m x i => exact q2_ok (vixa n z m) (fun _ _ => rfl) (ixaE_eq n z m)
  | ext n x => exact q1_ok (fun _ => vext n) (fun _ _ => rfl) (fun _ => extE_eq n)
  | lenS x => exact q1_ok (fun _ => lenSf) (fun _ _ => rfl) (fun _ => lenSE_eq)
  | lenL x => exact q1_ok (fun _ => lenLf) (fun _ _ => rfl) (fun _ => lenLE_eq)
  | lenn n x => exact q1_ok _ (fun _ _ => rfl) (fun _ _ _ => rfl)
  | _ => exact qSlow_ok _
end
end Go.Wg
