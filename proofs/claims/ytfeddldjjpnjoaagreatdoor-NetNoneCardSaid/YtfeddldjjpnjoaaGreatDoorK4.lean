/- The instructions that make objects, and those that write, for the kernel; no statement of the set is proved here. -/
import Derived.Test.YtfeddldjjpnjoaaGreatDoorK3
namespace Go.Wg
noncomputable section

/-- The pair of an answer, handed on. -/
def oB2 {α β : Type} (o : Option (α × β)) (k : α → β → Bool) : Bool := oB o fun p => Prod.rec (motive := fun _ => Bool) (fun a b => k a b) p
theorem oB2_none {α β : Type} (k : α → β → Bool) : oB2 none k = false := rfl
theorem oB2_some {α β : Type} (a : α) (b : β) (k : α → β → Bool) : oB2 (some (a, b)) k = k a b := rfl

def fEnt (p : V × V) (k : V × V → Bool) : Bool := Prod.rec (motive := fun _ => Bool) (fun a b => fV a fun a => fV b fun b => k (a, b)) p
theorem fEnt_eq (p : V × V) (k : V × V → Bool) : fEnt p k = k p := by
  obtain ⟨a, b⟩ := p
  show fV a (fun a => fV b fun b => k (a, b)) = _
  rw [fV_eq, fV_eq]
def fOb (ob : Ob) (k : Ob → Bool) : Bool := Ob.rec (motive := fun _ => (Ob → Bool) → Bool)
  (fun cells sk pa ver k => fVs cells fun cells => fBool sk fun sk => fOpt fNat pa fun pa => fNat ver fun ver => k (.row cells sk pa ver))
  (fun es ver k => fList fEnt es fun es => fNat ver fun ver => k (.map es ver)) (fun a T site ver k => fNat a fun a => fNat ver fun ver => k (.loop a T site ver)) ob k
theorem fOb_eq (ob : Ob) (k : Ob → Bool) : fOb ob k = k ob := by
  cases ob with
  | row cells sk pa ver => show fVs cells _ = _; simp only [fVs_eq, fBool_eq, fOpt_eq _ fNat_eq, fNat_eq]
  | map es ver => show fList fEnt es _ = _; simp only [fList_eq _ fEnt_eq, fNat_eq]
  | loop a T site ver => show fNat a (fun a => fNat ver fun ver => k (.loop a T site ver)) = _; simp only [fNat_eq]
/-- The paths to these objects are forced. -/
def touch (l : List Nat) : Hp → (Hp → Bool) → Bool :=
  List.rec (motive := fun _ => Hp → (Hp → Bool) → Bool) (fun h k => k h) (fun o _ ih h k => updM h o (fOpt fOb) fun h => ih h k) l
theorem touch_eq : ∀ (l : List Nat) (h : Hp) (k : Hp → Bool), touch l h k = k h
  | [], _, _ => rfl
  | o :: l, h, k => by
    show updM h o (fOpt fOb) (fun h => touch l h k) = _
    rw [updM_eq h o _ _ id (fun x c => fOpt_eq _ fOb_eq x c), touch_eq l]
    exact congrArg k (Tr.set_get_self h o)
def fSt (l : List Nat) (s : St) (k : St → Bool) : Bool := St.rec (motive := fun _ => Bool) (fun h n v => fNat n fun n => fNat v fun v => touch l h fun h => k ⟨h, n, v⟩) s
theorem fSt_eq (l : List Nat) (s : St) (k : St → Bool) : fSt l s k = k s := by
  obtain ⟨h, n, v⟩ := s
  show fNat n (fun n => fNat v fun v => touch l h fun h => k ⟨h, n, v⟩) = _
  simp only [fNat_eq, touch_eq]
def setM (h : Hp) (o : Nat) (x : Option Ob) (k : Hp → Bool) : Bool := updM h o (fun _ c => c x) k
theorem setM_eq (h : Hp) (o : Nat) (x : Option Ob) (k : Hp → Bool) : setM h o x k = k (h.set o x) := updM_eq h o _ k (fun _ => x) fun _ _ => rfl
def setE (T : Tm) (n : Nat) (v : V) (k : Tm → Bool) : Bool := updE T n (fun _ c => c (some v)) k
theorem setE_eq (T : Tm) (n : Nat) (v : V) (k : Tm → Bool) : setE T n v k = k (Tr.set T n (some v)) := updE_eq T n _ k (fun _ => some v) fun _ _ => rfl

abbrev SE := Tm → St → (V → St → Bool) → Bool
def AOk (a : A) (f : SE) : Prop := ∀ T s k, f T s k = oB2 (evA (Tm.opd T) s a) k
def aSlow (a : A) : SE := fun T s k => oB2 (evA (opF T) s a) fun v s' => fV v fun v => fNat s.next fun n => fSt [n] s' fun s' => k v s'
theorem aSlow_ok (a : A) : AOk a (aSlow a) := fun T s k => by
  unfold aSlow
  rw [opF_eq]
  congr 1
  funext v s'
  rw [fV_eq, fNat_eq, fSt_eq]
/-- A new object. -/
def pushE (l : List V) (s : St) (k : V → St → Bool) : Bool := St.rec (motive := fun _ => Bool)
  (fun h n v => bB (Nat.blt n 2097152) (setM h n (some (.row l false none v)) fun h => fNat (Nat.succ n) fun n' => fNat (Nat.succ v) fun v' => k (.p n 0) ⟨h, n', v'⟩) false) s
theorem pushE_eq (l : List V) (s : St) (k : V → St → Bool) : pushE l s k = oB2 (hnew l s) k := by
  obtain ⟨h, n, v⟩ := s
  show bB (Nat.blt n 2097152) _ false = _
  simp only [hnew, okNext, Tr.lim]
  rw [show (8 ^ 7 : Nat) = 2097152 from rfl]
  cases Nat.blt n 2097152 with
  | false => rfl
  | true => rw [bB_true, setM_eq, fNat_eq, fNat_eq]; rfl
/-- A new slice. -/
def mksE (esz n c : Nat) (l : List V) (s : St) (k : V → St → Bool) : Bool := lenE l 0 fun m => bB (Nat.ble 1 esz) (bB (Nat.ble n c) (bB (Nat.beq m (Nat.mul c esz)) (St.rec (motive := fun _ => Bool)
  (fun h nx ver => bB (Nat.blt nx 2097152) (setM h nx (some (.row l false none ver)) fun h => fNat (Nat.succ nx) fun n' => fNat (Nat.succ ver) fun v' => k (.sl nx 0 n (some c) esz) ⟨h, n', v'⟩) false) s) false) false) false
theorem mksE_eq (esz n c : Nat) (l : List V) (s : St) (k : V → St → Bool) : mksE esz n c l s k = oB2 (hmks esz n c l s) k := by
  obtain ⟨h, nx, ver⟩ := s
  unfold mksE
  rw [lenE_eq, Nat.zero_add]
  simp only [hmks, okNext, Tr.lim]
  rw [show (8 ^ 7 : Nat) = 2097152 from rfl, show c * esz = Nat.mul c esz from rfl]
  cases Nat.ble 1 esz with
  | false => cases Nat.blt nx 2097152 <;> rfl
  | true =>
    cases Nat.ble n c with
    | false => cases Nat.blt nx 2097152 <;> rfl
    | true =>
      cases Nat.beq l.length (Nat.mul c esz) with
      | false => cases Nat.blt nx 2097152 <;> rfl
      | true =>
        show bB (Nat.blt nx 2097152) _ false = _
        cases Nat.blt nx 2097152 with
        | false => rfl
        | true => rw [bB_true, setM_eq, fNat_eq, fNat_eq]; rfl
def aMks (z n : Nat) (l : List V) (p : List (Nat × Nat × Opd)) : SE := fun T s k => fillE T p l fun r => mksE z n n r s k
def aNew (l : List V) : SE := fun _ s k => pushE l s k
def aBox (x : Opd) : SE := fun T s k => opE T x fun v => cellsE v fun l => pushE l s k
def aE (a : A) : SE := A.rec (motive := fun _ => SE) aNew aBox aMks (fun z b l x y => aSlow (.mk z b l x y)) (aSlow .mkm) (fun x => aSlow (.sb x)) a
theorem aE_ok (a : A) : AOk a (aE a) := by
  cases a with
  | new l => exact fun T s k => pushE_eq l s k
  | box x =>
    intro T s k
    show opE T x _ = _
    rw [opE_eq]
    simp only [evA]
    cases Tm.opd T x with
    | none => rfl
    | some v =>
      show cellsE v _ = _
      rw [cellsE_eq, pushE_eq]
  | mkSl z n l p =>
    intro T s k
    show fillE T p l _ = _
    rw [fillE_eq]
    simp only [evA]
    cases evP (Tm.opd T) p with
    | none => rfl
    | some q =>
      simp only [oB_some]
      cases vfill l q with
      | none => rfl
      | some r => exact mksE_eq z n n r s k
  | _ => exact aSlow_ok _

def HOk (a : H) (f : SE) : Prop := ∀ T s k, f T s k = oB2 (evH (Tm.opd T) s a) k
/-- The object that a value leads to, and its partner. -/
def objs (h : Hp) (v : Option V) : List Nat := match objOf v with
  | some o => match getM h o with
    | some ob => match ob.partner with
      | some q => [o, q]
      | none => [o]
    | none => [o]
  | none => []
def hObjs (T : Tm) (h : Hp) (a : H) : List Nat := H.rec (motive := fun _ => List Nat) (fun _ a _ => objs h (opF T a)) (fun _ d _ => objs h (opF T d)) (fun _ _ x _ => objs h (opF T x)) (fun _ _ _ x _ => objs h (opF T x)) (fun _ _ x => objs h (opF T x)) (fun _ m _ _ => objs h (opF T m)) a
def hSlow (a : H) : SE := fun T s k => fList fNat (hObjs T s.h a) fun l => oB2 (evH (opF T) s a) fun v s' => fV v fun v => fNat s.next fun n => fSt (n :: l) s' fun s' => k v s'
theorem hSlow_ok (a : H) : HOk a (hSlow a) := fun T s k => by
  unfold hSlow
  rw [fList_eq _ fNat_eq, opF_eq]
  congr 1
  funext v s'
  rw [fV_eq, fNat_eq, fSt_eq]
def flatL (l : List V) : Bool := List.rec (motive := fun _ => Bool) true (fun a _ ih => flat1 a ih) l
theorem flatL_eq : ∀ l : List V, flatL l = l.all V.flat
  | [] => rfl
  | a :: l => by
    show flat1 a (flatL l) = _
    rw [flatL_eq l, List.all_cons]
    cases a <;> rfl
def stW (n off : Nat) (l : List V) (o : Nat) (h : Hp) (nx ver : Nat) (cells : List V) (sk : Bool) (k : V → St → Bool) : Bool :=
  lenE l 0 fun m => bB (Nat.beq m n) (bB (flatL l) (insE off l cells fun c => setM h o (some (.row c sk none ver)) fun h => fNat (Nat.succ ver) fun v' => k (.tup []) ⟨h, nx, v'⟩) false) false
def hSt (n : Nat) (a v : Opd) : SE := fun T s k => opE T a fun av => opE T v fun vv => is_p av (fun o off => St.rec (motive := fun _ => Bool) (fun h nx ver =>
  Option.rec (motive := fun _ => Bool) false (fun ob => Ob.rec (motive := fun _ => Bool) (fun cells sk pa _ => Option.rec (motive := fun _ => Bool) (cellsE vv fun l => stW n off l o h nx ver cells sk k) (fun _ => hSlow (.st n a v) T s k) pa)
    (fun _ _ => false) (fun _ _ _ _ => false) ob) (getM h o)) s) false
theorem hSt_ok (n : Nat) (a v : Opd) : HOk (.st n a v) (hSt n a v) := fun T s k => by
  have hs := hSlow_ok (.st n a v) T s k
  unfold hSt
  rw [opE_eq]
  simp only [evH] at hs ⊢
  cases ha : Tm.opd T a with
  | none => rfl
  | some av =>
    rw [ha] at hs
    show opE T v _ = _
    rw [opE_eq]
    cases hv : Tm.opd T v with
    | none => rfl
    | some vv =>
      rw [hv] at hs
      dsimp only at hs ⊢
      cases av with
      | p o off =>
        obtain ⟨h, nx, ver⟩ := s
        show Option.rec (motive := fun _ => Bool) false _ (getM h o) = _
        rw [getM_eq]
        simp only [hst, hput] at hs ⊢
        cases hg : h.get o with
        | none =>
          show false = _
          rw [show St.get ⟨h, nx, ver⟩ o = none from hg]
          cases Nat.beq vv.cells.length n <;> rfl
        | some ob =>
          rw [show St.get ⟨h, nx, ver⟩ o = some ob from hg] at hs ⊢
          cases ob with
          | row cells sk pa ve =>
            cases pa with
            | some q => exact hs
            | none =>
              show cellsE vv _ = _
              rw [cellsE_eq]
              unfold stW
              rw [lenE_eq, Nat.zero_add, flatL_eq, insE_eq]
              cases Nat.beq vv.cells.length n with
              | false => rfl
              | true =>
                dsimp only
                cases vv.cells.all V.flat with
                | false => cases Nat.ble (off + vv.cells.length) cells.length <;> rfl
                | true =>
                  cases Nat.ble (off + vv.cells.length) cells.length with
                  | false => rfl
                  | true =>
                    rw [bB_true, bB_true, bB_true, setM_eq, fNat_eq]; rfl
          | map es ve => cases Nat.beq vv.cells.length n <;> rfl
          | loop b T' site ve => cases Nat.beq vv.cells.length n <;> rfl
      | _ => rfl
/-! Appends. -/
def takeApp (n : Nat) : List V → List V → (List V → Bool) → Bool → Bool :=
  Nat.rec (motive := fun _ => List V → List V → (List V → Bool) → Bool → Bool) (fun cells nw k d => List.rec (motive := fun _ => Bool) (k nw) (fun _ _ _ => d) cells)
    (fun _ ih cells nw k d => List.rec (motive := fun _ => Bool) d (fun a r _ => ih r nw (fun t => k (a :: t)) d) cells) n
theorem takeApp_ok : ∀ {n : Nat} {cells nw : List V} {k : List V → Bool} {d : Bool}, takeApp n cells nw k d = true → (cells.length = n ∧ k (cells ++ nw) = true) ∨ d = true
  | 0, [], nw, k, d, h => .inl ⟨rfl, h⟩
  | 0, _ :: _, nw, k, d, h => .inr h
  | n + 1, [], nw, k, d, h => .inr h
  | n + 1, a :: r, nw, k, d, h => by
    rcases takeApp_ok (n := n) (cells := r) (nw := nw) (k := fun t => k (a :: t)) (d := d) h with ⟨h1, h2⟩ | h1
    · exact .inl ⟨by rw [List.length_cons, h1], h2⟩
    · exact .inr h1
def rowF (h : Hp) (o : Nat) (k : List V → Bool → Option Nat → Bool) (d : Bool) : Bool :=
  Option.rec (motive := fun _ => Bool) d (fun ob => Ob.rec (motive := fun _ => Bool) (fun cells sk pa _ => k cells sk pa) (fun _ _ => d) (fun _ _ _ _ => d) ob) (getM h o)
theorem rowF_ok {h : Hp} {o : Nat} {k : List V → Bool → Option Nat → Bool} {d : Bool} (e : rowF h o k d = true) : (∃ cells sk pa ve, h.get o = some (.row cells sk pa ve) ∧ k cells sk pa = true) ∨ d = true := by
  unfold rowF at e
  rw [getM_eq] at e
  cases hg : h.get o with
  | none => rw [hg] at e; exact .inr e
  | some ob =>
    rw [hg] at e
    cases ob with
    | row cells sk pa ve => exact .inl ⟨cells, sk, pa, ve, rfl, e⟩
    | map es ve => exact .inr e
    | loop a T site ve => exact .inr e
/-- A new row behind an old one. -/
def grE (esz bytes need : Nat) (h : Hp) (nx ver : Nat) (ob : Ob) (k : V → St → Bool) : Bool :=
  bB (Nat.blt nx 2097152) (bB (Nat.ble (Nat.mul need bytes) 140737488355328) (bB (Nat.ble 1 esz) (setM h nx (some ob) fun h => fNat (Nat.succ nx) fun n' => fNat (Nat.succ ver) fun v' => k (.sl nx 0 need none esz) ⟨h, n', v'⟩) false) false) false
theorem grE_ok {esz bytes need : Nat} {h : Hp} {nx ver : Nat} {ob : Ob} {k : V → St → Bool} (e : grE esz bytes need h nx ver ob k = true) :
    Nat.blt nx (8 ^ 7) = true ∧ Nat.ble (need * bytes) 140737488355328 = true ∧ Nat.ble 1 esz = true ∧ k (.sl nx 0 need none esz) ⟨h.set nx (some ob), nx + 1, ver + 1⟩ = true := by
  unfold grE at e
  have t : ∀ {c x : Bool}, bB c x false = true → c = true ∧ x = true := by
    intro c x h
    cases c with
    | false => cases h
    | true => exact ⟨rfl, h⟩
  obtain ⟨h1, e⟩ := t e
  obtain ⟨h2, e⟩ := t e
  obtain ⟨h3, e⟩ := t e
  rw [setM_eq, fNat_eq, fNat_eq] at e
  exact ⟨h1, h2, h3, e⟩
def loseE (pa : Option Nat) (h : Hp) (k : Hp → Bool) : Bool := Option.rec (motive := fun _ => Bool) (k h) (fun q => setM h q none k) pa
theorem loseE_eq (pa : Option Nat) (s : St) (k : Hp → Bool) : loseE pa s.h k = k (s.lose pa) := by
  cases pa with
  | none => rfl
  | some q => exact setM_eq _ _ _ _
def appS (esz bytes o off len : Nat) (cap : Option Nat) (z yo yoff yn : Nat) (s : St) (k : V → St → Bool) (d : Bool) : Bool :=
  St.rec (motive := fun _ => Bool) (fun h nx ver => Nat.rec (motive := fun _ => Bool) d (fun _ _ => Nat.rec (motive := fun _ => Bool) (rowF h yo (fun yc _ _ => segF yoff (Nat.mul yn esz) yc fun nw => bB (flatL nw) (rowF h o (fun cells sk pa =>
    bB (Nat.beq z esz) (bB (Nat.ble 1 esz) (fNat (Nat.add len yn) fun need => fNat (Nat.mul len esz) fun m => Option.rec (motive := fun _ => Bool)
      (takeApp m cells nw (fun row => bB sk (loseE pa h fun h => setM h o (some (.row cells true (some nx) ver)) fun h => grE esz bytes need h nx ver (.row row true (some o) ver) k) (grE esz bytes need h nx ver (.row row true none ver) k)) d)
      (fun c => bB (Nat.ble need c) (Option.rec (motive := fun _ => Bool) (insE m nw cells fun row => setM h o (some (.row row sk none ver)) fun h => fNat (Nat.succ ver) fun v' => k (.sl o 0 need (some c) esz) ⟨h, nx, v'⟩) (fun _ => d) pa)
        (takeApp m cells nw (fun row => grE esz bytes need h nx ver (.row row true none ver) k) d)) cap) d) d) d) false) d) (fun _ _ => d) off) yn) s
theorem bB_t {c x : Bool} (h : bB c x false = true) : c = true ∧ x = true := by
  cases c with
  | false => cases h
  | true => exact ⟨rfl, h⟩
theorem bB_d {c x d : Bool} (h : bB c x d = true) : (c = true ∧ x = true) ∨ d = true := by
  cases c with
  | false => exact .inr h
  | true => exact .inl ⟨rfl, h⟩
theorem appS_ok {esz bytes o off len : Nat} {cap : Option Nat} {z yo yoff yn : Nat} {yc : Option Nat} {yz : Nat} {s : St} {k : V → St → Bool} {d : Bool}
    (hd : d = true → ∃ v s', happ esz bytes s (.sl o off len cap z) (.sl yo yoff yn yc yz) = some (v, s') ∧ k v s' = true) (e : appS esz bytes o off len cap z yo yoff yn s k d = true) :
    ∃ v s', happ esz bytes s (.sl o off len cap z) (.sl yo yoff yn yc yz) = some (v, s') ∧ k v s' = true := by
  obtain ⟨h, nx, ver⟩ := s
  unfold appS at e
  cases yn with
  | zero => exact hd e
  | succ n =>
    cases off with
    | succ off => exact hd e
    | zero =>
      rcases rowF_ok (show rowF h yo _ d = true from e) with ⟨ycells, ysk, ypa, yve, hy, e⟩ | e
      · rw [segF_eq] at e
        obtain ⟨h1, e⟩ := bB_t e
        obtain ⟨h2, e⟩ := bB_t e
        rw [flatL_eq] at h2
        rcases rowF_ok e with ⟨cells, sk, pa, ve, ho, e⟩ | e
        · rcases bB_d e with ⟨h3, e⟩ | e
          · rcases bB_d e with ⟨h4, e⟩ | e
            · rw [fNat_eq, fNat_eq] at e
              have hz := Nat.eq_of_beq_eq_true h3
              have he1 := Nat.le_of_ble_eq_true h4
              have hgo : St.get ⟨h, nx, ver⟩ o = some (.row cells sk pa ve) := ho
              have hgy : St.get ⟨h, nx, ver⟩ yo = some (.row ycells ysk ypa yve) := hy
              have start : happ esz bytes ⟨h, nx, ver⟩ (.sl o 0 len cap z) (.sl yo yoff (n + 1) yc yz) = happS esz bytes ⟨h, nx, ver⟩ o 0 len cap z (n + 1) ((ycells.drop yoff).take ((n + 1) * esz)) := by
                simp only [happ, vlenOf, vread, hgy]
                rw [show Nat.beq (n + 1) 0 = false from rfl, show Nat.ble (yoff + (n + 1) * esz) ycells.length = true from h1]
                unfold happL
                rw [show Nat.beq (n + 1) 0 = false from rfl]
                dsimp only
                rw [show ((ycells.drop yoff).take ((n + 1) * esz)).all V.flat = true from h2]
              rw [start]
              generalize hnw : (ycells.drop yoff).take ((n + 1) * esz) = nw at e start ⊢
              have e0 : ∀ j, (0 : Nat) + j = j := Nat.zero_add
              have hgrow : ∀ {row : List V}, takeApp (Nat.mul len esz) cells nw (fun row => grE esz bytes (Nat.add len (n + 1)) h nx ver (.row row true none ver) k) d = true → room 0 cap esz (len + (n + 1)) cells.length sk = some false ∨ cells.length ≠ len * esz ∨ d = true →
                  True := fun _ _ => trivial
              clear hgrow
              cases cap with
              | none =>
                rcases takeApp_ok e with ⟨h5, e⟩ | e
                · have h5 : cells.length = len * esz := h5
                  have hroom : room 0 none esz (len + (n + 1)) cells.length sk = match sk with
                      | true => none
                      | false => some false := by
                    simp only [room]
                    have : Nat.ble (0 + (len + (n + 1)) * esz) cells.length = false := by
                      rw [h5, Bool.eq_false_iff]
                      intro hb
                      have := Nat.le_of_ble_eq_true hb
                      rw [Nat.add_mul, Nat.add_mul] at this
                      omega
                    rw [this]
                    cases sk <;> rfl
                  have hle : Nat.ble (0 + len * esz) cells.length = true := by rw [e0, h5]; exact Nat.ble_eq_true_of_le (Nat.le_refl _)
                  simp only [happS, hgo, hle, h3, hroom]
                  have hfull : cells.take (len * esz) = cells := by rw [← h5]; exact List.take_length
                  cases sk with
                  | true =>
                    have e : loseE pa h (fun h => setM h o (some (.row cells true (some nx) ver)) fun h => grE esz bytes (Nat.add len (n + 1)) h nx ver (.row (cells ++ nw) true (some o) ver) k) = true := e
                    rw [show loseE pa h _ = _ from loseE_eq pa ⟨h, nx, ver⟩ _, setM_eq] at e
                    obtain ⟨g1, g2, g3, g4⟩ := grE_ok e
                    simp only [happM]
                    rw [show okNext ⟨h, nx, ver⟩ = true from g1, show Nat.ble ((len + (n + 1)) * bytes) 140737488355328 = true from g2, g3]
                    refine ⟨_, _, rfl, ?_⟩
                    rw [e0, List.drop_zero, hfull]
                    exact g4
                  | false =>
                    have e : grE esz bytes (Nat.add len (n + 1)) h nx ver (.row (cells ++ nw) true none ver) k = true := e
                    obtain ⟨g1, g2, g3, g4⟩ := grE_ok e
                    simp only [happG]
                    rw [show okNext ⟨h, nx, ver⟩ = true from g1, show Nat.ble ((len + (n + 1)) * bytes) 140737488355328 = true from g2, g3]
                    refine ⟨_, _, rfl, ?_⟩
                    rw [List.drop_zero, hfull]
                    exact g4
                · rw [← start]; exact hd e
              | some c =>
                have e : bB (Nat.ble (len + (n + 1)) c) (Option.rec (motive := fun _ => Bool) (insE (len * esz) nw cells fun row => setM h o (some (.row row sk none ver)) fun h => fNat (Nat.succ ver) fun v' => k (.sl o 0 (len + (n + 1)) (some c) esz) ⟨h, nx, v'⟩) (fun _ => d) pa)
                    (takeApp (len * esz) cells nw (fun row => grE esz bytes (len + (n + 1)) h nx ver (.row row true none ver) k) d) = true := e
                cases hc : Nat.ble (len + (n + 1)) c with
                | true =>
                  rw [hc, bB_true] at e
                  cases pa with
                  | some q => rw [← start]; exact hd e
                  | none =>
                    have e : insE (len * esz) nw cells (fun row => setM h o (some (.row row sk none ver)) fun h => fNat (Nat.succ ver) fun v' => k (.sl o 0 (len + (n + 1)) (some c) esz) ⟨h, nx, v'⟩) = true := e
                    rw [insE_eq] at e
                    obtain ⟨h6, e⟩ := bB_t e
                    rw [setM_eq, fNat_eq] at e
                    have hle : Nat.ble (0 + len * esz) cells.length = true := by
                      have := Nat.le_of_ble_eq_true h6
                      exact Nat.ble_eq_true_of_le (by omega)
                    simp only [happS, hgo, hle, h3, room, hc]
                    refine ⟨_, _, rfl, ?_⟩
                    rw [e0]
                    exact e
                | false =>
                  rw [hc, bB_false] at e
                  rcases takeApp_ok e with ⟨h5, e⟩ | e
                  · have hle : Nat.ble (0 + len * esz) cells.length = true := by rw [e0, h5]; exact Nat.ble_eq_true_of_le (Nat.le_refl _)
                    have hfull : cells.take (len * esz) = cells := by rw [← h5]; exact List.take_length
                    simp only [happS, hgo, hle, h3, room, hc]
                    obtain ⟨g1, g2, g3, g4⟩ := grE_ok e
                    simp only [happG]
                    rw [show okNext ⟨h, nx, ver⟩ = true from g1, show Nat.ble ((len + (n + 1)) * bytes) 140737488355328 = true from g2, g3]
                    refine ⟨_, _, rfl, ?_⟩
                    rw [List.drop_zero, hfull]
                    exact g4
                  · rw [← start]; exact hd e
            · exact hd e
          · exact hd e
        · exact hd e
      · exact hd e
def HGot (a : H) (f : SE) : Prop := ∀ T s k, f T s k = true → ∃ v s', evH (Tm.opd T) s a = some (v, s') ∧ k v s' = true
theorem HOk.got {a : H} {f : SE} (h : HOk a f) : HGot a f := fun T s k e => by
  rw [h] at e
  cases ho : evH (Tm.opd T) s a with
  | none => rw [ho] at e; cases e
  | some p => rw [ho] at e; exact ⟨p.1, p.2, rfl, e⟩
def hApp (esz bytes : Nat) (x y : Opd) : SE := fun T s k => opE T x fun xv => opE T y fun yv => is_sl yv (fun yo yoff yn _ _ => is_sl xv (fun o off len cap z => appS esz bytes o off len cap z yo yoff yn s k (hSlow (.app esz bytes x y) T s k)) (hSlow (.app esz bytes x y) T s k)) (hSlow (.app esz bytes x y) T s k)
theorem hApp_got (esz bytes : Nat) (x y : Opd) : HGot (.app esz bytes x y) (hApp esz bytes x y) := fun T s k e => by
  have hd := fun h => (hSlow_ok (.app esz bytes x y)).got T s k h
  unfold hApp at e
  rw [opE_eq] at e
  simp only [evH] at hd ⊢
  cases hx : Tm.opd T x with
  | none => rw [hx] at e; cases e
  | some xv =>
    rw [hx] at e hd
    rw [oB_some, opE_eq] at e
    cases hy : Tm.opd T y with
    | none => rw [hy] at e; cases e
    | some yv =>
      rw [hy] at e hd
      dsimp only at hd ⊢
      cases yv with
      | sl yo yoff yn yc yz =>
        cases xv with
        | sl o off len cap z => exact appS_ok hd e
        | _ => exact hd e
      | _ => exact hd e
def hE (a : H) : SE := H.rec (motive := fun _ => SE) hSt (fun z d x => hSlow (.cpy z d x)) hApp (fun z b l x y => hSlow (.appZ z b l x y)) (fun z l x => hSlow (.clr z l x)) (fun kk m x v => hSlow (.mu kk m x v)) a
theorem hE_got (a : H) : HGot a (hE a) := by
  cases a with
  | st n a v => exact (hSt_ok n a v).got
  | app z b x y => exact hApp_got z b x y
  | _ => exact (hSlow_ok _).got
end
end Go.Wg
