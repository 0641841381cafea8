/- Values for the kernel: forced before they are handed on, and asked by one recursor; no statement of the set is proved here. -/
import Derived.Test.YtfeddldjjpnjoaaGreatDoorK
namespace Go.Wg
noncomputable section

def oB {α : Type} (o : Option α) (k : α → Bool) : Bool := Option.rec (motive := fun _ => Bool) false (fun a => k a) o
theorem oB_none {α : Type} (k : α → Bool) : oB none k = false := rfl
theorem oB_some {α : Type} (a : α) (k : α → Bool) : oB (some a) k = k a := rfl
theorem oB_true {α : Type} {o : Option α} {k : α → Bool} (h : oB o k = true) : ∃ a, o = some a ∧ k a = true := by
  cases o with
  | none => cases h
  | some a => exact ⟨a, rfl, h⟩
def bB (c t e : Bool) : Bool := Bool.rec (motive := fun _ => Bool) e t c
theorem bB_true (t e : Bool) : bB true t e = t := rfl
theorem bB_false (t e : Bool) : bB false t e = e := rfl

/-! Forcing: each of these hands on what it is given. -/
def fNat (n : Nat) (k : Nat → Bool) : Bool := Nat.rec (motive := fun _ => Bool) (k 0) (fun m _ => k (Nat.succ m)) n
theorem fNat_eq (n : Nat) (k : Nat → Bool) : fNat n k = k n := by cases n <;> rfl
def fBool (b : Bool) (k : Bool → Bool) : Bool := Bool.rec (motive := fun _ => Bool) (k false) (k true) b
theorem fBool_eq (b : Bool) (k : Bool → Bool) : fBool b k = k b := by cases b <;> rfl
def fInt (i : Int) (k : Int → Bool) : Bool := Int.rec (motive := fun _ => Bool) (fun n => fNat n fun n => k (.ofNat n)) (fun n => fNat n fun n => k (.negSucc n)) i
theorem fInt_eq (i : Int) (k : Int → Bool) : fInt i k = k i := by cases i with
  | ofNat n => show fNat n (fun n => k (.ofNat n)) = _; rw [fNat_eq]
  | negSucc n => show fNat n (fun n => k (.negSucc n)) = _; rw [fNat_eq]
def fKind (a : IntKind) (k : IntKind → Bool) : Bool := IntKind.rec (motive := fun _ => Bool) (k .i8) (k .i16) (k .i32) (k .i64) (k .u8) (k .u16) (k .u32) (k .u64) a
theorem fKind_eq (a : IntKind) (k : IntKind → Bool) : fKind a k = k a := by cases a <;> rfl
def fOpt {α : Type} (f : α → (α → Bool) → Bool) (o : Option α) (k : Option α → Bool) : Bool := Option.rec (motive := fun _ => Bool) (k none) (fun a => f a fun a => k (some a)) o
theorem fOpt_eq {α : Type} (f : α → (α → Bool) → Bool) (hf : ∀ a k, f a k = k a) (o : Option α) (k : Option α → Bool) : fOpt f o k = k o := by
  cases o with
  | none => rfl
  | some a => exact hf _ _
def fList {α : Type} (f : α → (α → Bool) → Bool) (l : List α) : (List α → Bool) → Bool :=
  List.rec (motive := fun _ => (List α → Bool) → Bool) (fun k => k []) (fun a _ ih k => f a fun a => ih fun r => k (a :: r)) l
theorem fList_eq {α : Type} (f : α → (α → Bool) → Bool) (hf : ∀ a k, f a k = k a) : ∀ (l : List α) (k : List α → Bool), fList f l k = k l
  | [], _ => rfl
  | a :: l, k => by
    show f a (fun a => fList f l fun r => k (a :: r)) = _
    rw [hf, fList_eq f hf l]
def fU8 (b : UInt8) (k : UInt8 → Bool) : Bool := fNat b.toNat fun n => k (UInt8.ofNat n)
theorem fU8_eq (b : UInt8) (k : UInt8 → Bool) : fU8 b k = k b := by rw [fU8, fNat_eq, UInt8.ofNat_toNat]
def fS (b : ByteArray) (k : ByteArray → Bool) : Bool := fList fU8 b.data.toList fun l => k ⟨⟨l⟩⟩
theorem fS_eq (b : ByteArray) (k : ByteArray → Bool) : fS b k = k b := by rw [fS, fList_eq _ fU8_eq]

def fv_b (x : Bool) : (V → Bool) → Bool := fun k => fBool x fun x => k (.b x)
def fv_i (kd : IntKind) (n : Int) : (V → Bool) → Bool := fun k => fKind kd fun kd => fInt n fun n => k (.i kd n)
def fv_s (x : ByteArray) : (V → Bool) → Bool := fun k => fS x fun x => k (.s x)
def fv_nilp : (V → Bool) → Bool := fun k => k .nilp
def fv_p (o a : Nat) : (V → Bool) → Bool := fun k => fNat o fun o => fNat a fun a => k (.p o a)
def fv_nilsl : (V → Bool) → Bool := fun k => k .nilsl
def fv_esl (o a z : Nat) : (V → Bool) → Bool := fun k => fNat o fun o => fNat a fun a => fNat z fun z => k (.esl o a z)
def fv_sl (o a n : Nat) (c : Option Nat) (z : Nat) : (V → Bool) → Bool := fun k => fNat o fun o => fNat a fun a => fNat n fun n => fOpt fNat c fun c => fNat z fun z => k (.sl o a n c z)
def fv_nilm : (V → Bool) → Bool := fun k => k .nilm
def fv_m (o : Nat) : (V → Bool) → Bool := fun k => fNat o fun o => k (.m o)
def fv_fn (f : Nat) (_l : List V) (ih : (List V → Bool) → Bool) : (V → Bool) → Bool := fun k => fNat f fun f => ih fun l => k (.fn f l)
def fv_yv (o : Nat) : (V → Bool) → Bool := fun k => fNat o fun o => k (.yv o)
def fv_nilf : (V → Bool) → Bool := fun k => k .nilf
def fv_nili : (V → Bool) → Bool := fun k => k .nili
def fv_ifc (t : Nat) (_v : V) (ih : (V → Bool) → Bool) : (V → Bool) → Bool := fun k => fNat t fun t => ih fun v => k (.ifc t v)
def fv_agg (_l : List V) (ih : (List V → Bool) → Bool) : (V → Bool) → Bool := fun k => ih fun l => k (.agg l)
def fv_tup (_l : List V) (ih : (List V → Bool) → Bool) : (V → Bool) → Bool := fun k => ih fun l => k (.tup l)
def fv_nil : (List V → Bool) → Bool := fun k => k []
def fv_cons (_v : V) (_l : List V) (ih1 : (V → Bool) → Bool) (ih2 : (List V → Bool) → Bool) : (List V → Bool) → Bool := fun k => ih1 fun v => ih2 fun l => k (v :: l)
def fV (v : V) : (V → Bool) → Bool := V.rec (motive_1 := fun _ => (V → Bool) → Bool) (motive_2 := fun _ => (List V → Bool) → Bool) fv_b fv_i fv_s fv_nilp fv_p fv_nilsl fv_esl fv_sl fv_nilm fv_m fv_fn fv_yv fv_nilf fv_nili fv_ifc fv_agg fv_tup fv_nil fv_cons v
def fVs (l : List V) : (List V → Bool) → Bool := V.rec_1 (motive_1 := fun _ => (V → Bool) → Bool) (motive_2 := fun _ => (List V → Bool) → Bool) fv_b fv_i fv_s fv_nilp fv_p fv_nilsl fv_esl fv_sl fv_nilm fv_m fv_fn fv_yv fv_nilf fv_nili fv_ifc fv_agg fv_tup fv_nil fv_cons l
mutual
theorem fV_eq : ∀ (v : V) (k : V → Bool), fV v k = k v
  | .b x, k => by show (fBool x fun x => k (.b x)) = _; simp only [fBool_eq]
  | .i kd n, k => by show (fKind kd fun kd => fInt n fun n => k (.i kd n)) = _; simp only [fKind_eq, fInt_eq]
  | .s x, k => by show (fS x fun x => k (.s x)) = _; simp only [fS_eq]
  | .nilp, k => rfl
  | .p o a, k => by show (fNat o fun o => fNat a fun a => k (.p o a)) = _; simp only [fNat_eq]
  | .nilsl, k => rfl
  | .esl o a z, k => by show (fNat o fun o => fNat a fun a => fNat z fun z => k (.esl o a z)) = _; simp only [fNat_eq]
  | .sl o a n c z, k => by show (fNat o fun o => fNat a fun a => fNat n fun n => fOpt fNat c fun c => fNat z fun z => k (.sl o a n c z)) = _; simp only [fNat_eq, fOpt_eq _ fNat_eq]
  | .nilm, k => rfl
  | .m o, k => by show (fNat o fun o => k (.m o)) = _; simp only [fNat_eq]
  | .fn f l, k => by show (fNat f fun f => fVs l fun l => k (.fn f l)) = _; simp only [fNat_eq, fVs_eq l]
  | .yv o, k => by show (fNat o fun o => k (.yv o)) = _; simp only [fNat_eq]
  | .nilf, k => rfl
  | .nili, k => rfl
  | .ifc t v, k => by show (fNat t fun t => fV v fun v => k (.ifc t v)) = _; simp only [fNat_eq, fV_eq v]
  | .agg l, k => by show (fVs l fun l => k (.agg l)) = _; simp only [fVs_eq l]
  | .tup l, k => by show (fVs l fun l => k (.tup l)) = _; simp only [fVs_eq l]
theorem fVs_eq : ∀ (l : List V) (k : List V → Bool), fVs l k = k l
  | [], _ => rfl
  | v :: l, k => (fV_eq v _).trans (fVs_eq l _)
end
def fOV (o : Option V) (k : V → Bool) : Bool := oB o fun v => fV v k
theorem fOV_eq (o : Option V) (k : V → Bool) : fOV o k = oB o k := by
  cases o with
  | none => rfl
  | some v => exact fV_eq v k

/-! What kind a value is. -/
def is_b (v : V) : (Bool → Bool) → Bool → Bool := V.rec (motive_1 := fun _ => (Bool → Bool) → Bool → Bool) (motive_2 := fun _ => Bool) (fun x k _ => k x) (fun _ _ _ d => d) (fun _ _ d => d) (fun _ d => d) (fun _ _ _ d => d) (fun _ d => d) (fun _ _ _ _ d => d) (fun _ _ _ _ _ _ d => d) (fun _ d => d) (fun _ _ d => d) (fun _ _ _ _ d => d) (fun _ _ d => d) (fun _ d => d) (fun _ d => d) (fun _ _ _ _ d => d) (fun _ _ _ d => d) (fun _ _ _ d => d) false (fun _ _ _ _ => false) v
def is_i (v : V) : (IntKind → Int → Bool) → Bool → Bool := V.rec (motive_1 := fun _ => (IntKind → Int → Bool) → Bool → Bool) (motive_2 := fun _ => Bool) (fun _ _ d => d) (fun kd n k _ => k kd n) (fun _ _ d => d) (fun _ d => d) (fun _ _ _ d => d) (fun _ d => d) (fun _ _ _ _ d => d) (fun _ _ _ _ _ _ d => d) (fun _ d => d) (fun _ _ d => d) (fun _ _ _ _ d => d) (fun _ _ d => d) (fun _ d => d) (fun _ d => d) (fun _ _ _ _ d => d) (fun _ _ _ d => d) (fun _ _ _ d => d) false (fun _ _ _ _ => false) v
def is_s (v : V) : (ByteArray → Bool) → Bool → Bool := V.rec (motive_1 := fun _ => (ByteArray → Bool) → Bool → Bool) (motive_2 := fun _ => Bool) (fun _ _ d => d) (fun _ _ _ d => d) (fun x k _ => k x) (fun _ d => d) (fun _ _ _ d => d) (fun _ d => d) (fun _ _ _ _ d => d) (fun _ _ _ _ _ _ d => d) (fun _ d => d) (fun _ _ d => d) (fun _ _ _ _ d => d) (fun _ _ d => d) (fun _ d => d) (fun _ d => d) (fun _ _ _ _ d => d) (fun _ _ _ d => d) (fun _ _ _ d => d) false (fun _ _ _ _ => false) v
def is_p (v : V) : (Nat → Nat → Bool) → Bool → Bool := V.rec (motive_1 := fun _ => (Nat → Nat → Bool) → Bool → Bool) (motive_2 := fun _ => Bool) (fun _ _ d => d) (fun _ _ _ d => d) (fun _ _ d => d) (fun _ d => d) (fun o a k _ => k o a) (fun _ d => d) (fun _ _ _ _ d => d) (fun _ _ _ _ _ _ d => d) (fun _ d => d) (fun _ _ d => d) (fun _ _ _ _ d => d) (fun _ _ d => d) (fun _ d => d) (fun _ d => d) (fun _ _ _ _ d => d) (fun _ _ _ d => d) (fun _ _ _ d => d) false (fun _ _ _ _ => false) v
def is_sl (v : V) : (Nat → Nat → Nat → Option Nat → Nat → Bool) → Bool → Bool := V.rec (motive_1 := fun _ => (Nat → Nat → Nat → Option Nat → Nat → Bool) → Bool → Bool) (motive_2 := fun _ => Bool) (fun _ _ d => d) (fun _ _ _ d => d) (fun _ _ d => d) (fun _ d => d) (fun _ _ _ d => d) (fun _ d => d) (fun _ _ _ _ d => d) (fun o a n c z k _ => k o a n c z) (fun _ d => d) (fun _ _ d => d) (fun _ _ _ _ d => d) (fun _ _ d => d) (fun _ d => d) (fun _ d => d) (fun _ _ _ _ d => d) (fun _ _ _ d => d) (fun _ _ _ d => d) false (fun _ _ _ _ => false) v
def is_esl (v : V) : (Nat → Nat → Nat → Bool) → Bool → Bool := V.rec (motive_1 := fun _ => (Nat → Nat → Nat → Bool) → Bool → Bool) (motive_2 := fun _ => Bool) (fun _ _ d => d) (fun _ _ _ d => d) (fun _ _ d => d) (fun _ d => d) (fun _ _ _ d => d) (fun _ d => d) (fun o a z k _ => k o a z) (fun _ _ _ _ _ _ d => d) (fun _ d => d) (fun _ _ d => d) (fun _ _ _ _ d => d) (fun _ _ d => d) (fun _ d => d) (fun _ d => d) (fun _ _ _ _ d => d) (fun _ _ _ d => d) (fun _ _ _ d => d) false (fun _ _ _ _ => false) v
def is_m (v : V) : (Nat → Bool) → Bool → Bool := V.rec (motive_1 := fun _ => (Nat → Bool) → Bool → Bool) (motive_2 := fun _ => Bool) (fun _ _ d => d) (fun _ _ _ d => d) (fun _ _ d => d) (fun _ d => d) (fun _ _ _ d => d) (fun _ d => d) (fun _ _ _ _ d => d) (fun _ _ _ _ _ _ d => d) (fun _ d => d) (fun o k _ => k o) (fun _ _ _ _ d => d) (fun _ _ d => d) (fun _ d => d) (fun _ d => d) (fun _ _ _ _ d => d) (fun _ _ _ d => d) (fun _ _ _ d => d) false (fun _ _ _ _ => false) v
def is_fn (v : V) : (Nat → List V → Bool) → Bool → Bool := V.rec (motive_1 := fun _ => (Nat → List V → Bool) → Bool → Bool) (motive_2 := fun _ => Bool) (fun _ _ d => d) (fun _ _ _ d => d) (fun _ _ d => d) (fun _ d => d) (fun _ _ _ d => d) (fun _ d => d) (fun _ _ _ _ d => d) (fun _ _ _ _ _ _ d => d) (fun _ d => d) (fun _ _ d => d) (fun f l _ k _ => k f l) (fun _ _ d => d) (fun _ d => d) (fun _ d => d) (fun _ _ _ _ d => d) (fun _ _ _ d => d) (fun _ _ _ d => d) false (fun _ _ _ _ => false) v
def is_yv (v : V) : (Nat → Bool) → Bool → Bool := V.rec (motive_1 := fun _ => (Nat → Bool) → Bool → Bool) (motive_2 := fun _ => Bool) (fun _ _ d => d) (fun _ _ _ d => d) (fun _ _ d => d) (fun _ d => d) (fun _ _ _ d => d) (fun _ d => d) (fun _ _ _ _ d => d) (fun _ _ _ _ _ _ d => d) (fun _ d => d) (fun _ _ d => d) (fun _ _ _ _ d => d) (fun o k _ => k o) (fun _ d => d) (fun _ d => d) (fun _ _ _ _ d => d) (fun _ _ _ d => d) (fun _ _ _ d => d) false (fun _ _ _ _ => false) v
def is_agg (v : V) : (List V → Bool) → Bool → Bool := V.rec (motive_1 := fun _ => (List V → Bool) → Bool → Bool) (motive_2 := fun _ => Bool) (fun _ _ d => d) (fun _ _ _ d => d) (fun _ _ d => d) (fun _ d => d) (fun _ _ _ d => d) (fun _ d => d) (fun _ _ _ _ d => d) (fun _ _ _ _ _ _ d => d) (fun _ d => d) (fun _ _ d => d) (fun _ _ _ _ d => d) (fun _ _ d => d) (fun _ d => d) (fun _ d => d) (fun _ _ _ _ d => d) (fun l _ k _ => k l) (fun _ _ _ d => d) false (fun _ _ _ _ => false) v
def is_tup (v : V) : (List V → Bool) → Bool → Bool := V.rec (motive_1 := fun _ => (List V → Bool) → Bool → Bool) (motive_2 := fun _ => Bool) (fun _ _ d => d) (fun _ _ _ d => d) (fun _ _ d => d) (fun _ d => d) (fun _ _ _ d => d) (fun _ d => d) (fun _ _ _ _ d => d) (fun _ _ _ _ _ _ d => d) (fun _ d => d) (fun _ _ d => d) (fun _ _ _ _ d => d) (fun _ _ d => d) (fun _ d => d) (fun _ d => d) (fun _ _ _ _ d => d) (fun _ _ _ d => d) (fun l _ k _ => k l) false (fun _ _ _ _ => false) v
def lenLE (v : V) : (V → Bool) → Bool := V.rec (motive_1 := fun _ => (V → Bool) → Bool) (motive_2 := fun _ => Bool) (fun _ _ => false) (fun _ _ _ => false) (fun _ _ => false) (fun _ => false) (fun _ _ _ => false) (fun k => k (.i .i64 (.ofNat 0))) (fun _ _ _ k => k (.i .i64 (.ofNat 0))) (fun _ _ n _ _ k => k (.i .i64 (.ofNat n))) (fun _ => false) (fun _ _ => false) (fun _ _ _ _ => false) (fun _ _ => false) (fun _ => false) (fun _ => false) (fun _ _ _ _ => false) (fun _ _ _ => false) (fun _ _ _ => false) false (fun _ _ _ _ => false) v
def nilP (v : V) : Bool → Bool → Bool := V.rec (motive_1 := fun _ => Bool → Bool → Bool) (motive_2 := fun _ => Bool) (fun _ _ e => e) (fun _ _ _ e => e) (fun _ _ e => e) (fun t _ => t) (fun _ _ _ e => e) (fun _ e => e) (fun _ _ _ _ e => e) (fun _ _ _ _ _ _ e => e) (fun _ e => e) (fun _ _ e => e) (fun _ _ _ _ e => e) (fun _ _ e => e) (fun t _ => t) (fun t _ => t) (fun _ _ _ _ e => e) (fun _ _ _ e => e) (fun _ _ _ e => e) false (fun _ _ _ _ => false) v
def flat1 (v : V) : Bool → Bool := V.rec (motive_1 := fun _ => Bool → Bool) (motive_2 := fun _ => Bool) (fun _ k => k) (fun _ _ k => k) (fun _ k => k) (fun k => k) (fun _ _ k => k) (fun k => k) (fun _ _ _ k => k) (fun _ _ _ _ _ k => k) (fun k => k) (fun _ k => k) (fun _ _ _ k => k) (fun _ k => k) (fun k => k) (fun k => k) (fun _ _ _ k => k) (fun _ _ _ => false) (fun _ _ _ => false) false (fun _ _ _ _ => false) v
def nk_ptr (v : V) : (Bool → Bool) → Bool := V.rec (motive_1 := fun _ => (Bool → Bool) → Bool) (motive_2 := fun _ => Bool) (fun _ _ => false) (fun _ _ _ => false) (fun _ _ => false) (fun k => k true) (fun _ _ k => k false) (fun _ => false) (fun _ _ _ _ => false) (fun _ _ _ _ _ _ => false) (fun _ => false) (fun _ _ => false) (fun _ _ _ _ => false) (fun _ _ => false) (fun _ => false) (fun _ => false) (fun _ _ _ _ => false) (fun _ _ _ => false) (fun _ _ _ => false) false (fun _ _ _ _ => false) v
def nk_sl (v : V) : (Bool → Bool) → Bool := V.rec (motive_1 := fun _ => (Bool → Bool) → Bool) (motive_2 := fun _ => Bool) (fun _ _ => false) (fun _ _ _ => false) (fun _ _ => false) (fun _ => false) (fun _ _ _ => false) (fun k => k true) (fun _ _ _ k => k false) (fun _ _ _ _ _ k => k false) (fun _ => false) (fun _ _ => false) (fun _ _ _ _ => false) (fun _ _ => false) (fun _ => false) (fun _ => false) (fun _ _ _ _ => false) (fun _ _ _ => false) (fun _ _ _ => false) false (fun _ _ _ _ => false) v
def nk_mp (v : V) : (Bool → Bool) → Bool := V.rec (motive_1 := fun _ => (Bool → Bool) → Bool) (motive_2 := fun _ => Bool) (fun _ _ => false) (fun _ _ _ => false) (fun _ _ => false) (fun _ => false) (fun _ _ _ => false) (fun _ => false) (fun _ _ _ _ => false) (fun _ _ _ _ _ _ => false) (fun k => k true) (fun _ k => k false) (fun _ _ _ _ => false) (fun _ _ => false) (fun _ => false) (fun _ => false) (fun _ _ _ _ => false) (fun _ _ _ => false) (fun _ _ _ => false) false (fun _ _ _ _ => false) v
def nk_fn (v : V) : (Bool → Bool) → Bool := V.rec (motive_1 := fun _ => (Bool → Bool) → Bool) (motive_2 := fun _ => Bool) (fun _ _ => false) (fun _ _ _ => false) (fun _ _ => false) (fun _ => false) (fun _ _ _ => false) (fun _ => false) (fun _ _ _ _ => false) (fun _ _ _ _ _ _ => false) (fun _ => false) (fun _ _ => false) (fun _ _ _ k => k false) (fun _ _ => false) (fun k => k true) (fun _ => false) (fun _ _ _ _ => false) (fun _ _ _ => false) (fun _ _ _ => false) false (fun _ _ _ _ => false) v
def nk_ifc (v : V) : (Bool → Bool) → Bool := V.rec (motive_1 := fun _ => (Bool → Bool) → Bool) (motive_2 := fun _ => Bool) (fun _ _ => false) (fun _ _ _ => false) (fun _ _ => false) (fun _ => false) (fun _ _ _ => false) (fun _ => false) (fun _ _ _ _ => false) (fun _ _ _ _ _ _ => false) (fun _ => false) (fun _ _ => false) (fun _ _ _ _ => false) (fun _ _ => false) (fun _ => false) (fun k => k true) (fun _ _ _ k => k false) (fun _ _ _ => false) (fun _ _ _ => false) false (fun _ _ _ _ => false) v
end
end Go.Wg
